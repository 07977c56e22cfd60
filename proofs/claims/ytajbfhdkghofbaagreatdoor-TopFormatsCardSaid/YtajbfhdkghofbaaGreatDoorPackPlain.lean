/- packed (plain): machines of bytes, and bytes of machines. -/
import Derived.Test.YtajbfhdkghofbaaGreatDoorEncode
namespace Go.Proofs.YtajbfhdkghofbaaGreatDoor
open Go.RowKit

/-- bytes xs a number, the highest first -/
def valB (l : List Int) : Int := l.foldl (fun n c => n * 256 + c) 0
theorem valB_from (l : List Int) : ∀ n, l.foldl (fun n c => n * 256 + c) n = n * 256 ^ l.length + valB l := by
  unfold valB
  induction l with
  | nil => intro n; simp
  | cons c l ih =>
    intro n
    simp only [List.foldl_cons, List.length_cons]
    rw [ih (n * 256 + c), ih (0 * 256 + c), Int.zero_mul, Int.zero_add, Int.pow_succ, Int.add_mul, Int.mul_assoc, Int.mul_comm 256 (256 ^ l.length)]
    omega
theorem valB_cons (c : Int) (l : List Int) : valB (c :: l) = c * 256 ^ l.length + valB l := by
  have := valB_from l (0 * 256 + c)
  unfold valB at *
  simp only [List.foldl_cons]
  rw [this]; simp
theorem valB_nil : valB [] = 0 := rfl
theorem pow_pos256 (k : Nat) : 0 < (256 : Int) ^ k := Int.pow_pos (by decide)
theorem valB_b (l : List Int) (h : BOk l) : 0 ≤ valB l ∧ valB l < 256 ^ l.length := by
  induction l with
  | nil => simp [valB_nil]
  | cons c l ih =>
    have h1 := h c (by simp)
    obtain ⟨h2, h3⟩ := ih fun x hx => h x (by simp [hx])
    rw [valB_cons, List.length_cons, Int.pow_succ]
    have hp := pow_pos256 l.length
    have h4 : 0 ≤ c * 256 ^ l.length := Int.mul_nonneg h1.1 (by omega)
    have h5 : c * 256 ^ l.length ≤ 255 * 256 ^ l.length := Int.mul_le_mul_of_nonneg_right (by omega) (by omega)
    omega
theorem putL_add (a n : Int) (k : Nat) : ∀ j, j ≤ k → putL (a * 256 ^ k + n) j = putL n j
  | 0, _ => rfl
  | j + 1, hj => by
    unfold putL
    rw [putL_add a n k j (by omega)]
    congr 1
    have e : a * 256 ^ k = (a * 256 ^ (k - (j + 1)) * 256) * 256 ^ j := by
      rw [Int.mul_assoc, Int.mul_assoc, ← Int.pow_succ', ← Int.pow_add]
      congr 2; omega
    rw [e, Int.add_comm, Int.add_mul_ediv_right _ _ (by have := pow_pos256 j; omega)]
    omega
theorem putL_val (l : List Int) (h : BOk l) : putL (valB l) l.length = l := by
  induction l with
  | nil => rfl
  | cons c l ih =>
    have h1 := h c (by simp)
    have hb := valB_b l fun x hx => h x (by simp [hx])
    have hp := pow_pos256 l.length
    rw [valB_cons, List.length_cons]
    unfold putL
    rw [putL_add c (valB l) l.length l.length (Nat.le_refl _), ih fun x hx => h x (by simp [hx])]
    congr 1
    rw [Int.add_comm, Int.add_mul_ediv_right _ _ (by omega), Int.ediv_eq_zero_of_lt hb.1 hb.2, Int.zero_add]
    exact Int.emod_eq_of_lt h1.1 h1.2
theorem valB_putL (n : Int) (k : Nat) : valB (putL n k) = n % 256 ^ k := by
  induction k with
  | zero => simp [putL, valB_nil]
  | succ k ih =>
    unfold putL
    rw [valB_cons, ih, putL_len, Int.pow_succ]
    have hp := pow_pos256 k
    have h1 := Int.emod_add_mul_ediv n (256 ^ k)
    have h2 := Int.emod_add_mul_ediv (n / 256 ^ k) 256
    have h3 := Int.emod_add_mul_ediv n (256 ^ k * 256)
    have h4 : n / 256 ^ k / 256 = n / (256 ^ k * 256) := Int.ediv_ediv_of_nonneg (by omega)
    rw [← h4] at h3
    generalize n / 256 ^ k = q at *
    generalize n % 256 ^ k = r at *
    have e : 256 ^ k * q = 256 ^ k * (q % 256) + 256 ^ k * 256 * (q / 256) := by
      rw [Int.mul_assoc, ← Int.mul_add, h2]
    rw [Int.mul_comm (q % 256) (256 ^ k)]
    omega
theorem valB_of (n : Int) (k : Nat) (h0 : 0 ≤ n) (h1 : n < 256 ^ k) : valB (putL n k) = n := by rw [valB_putL, Int.emod_eq_of_lt h0 h1]

/-! ### a machine of bytes -/
def takeP (k : Nat) (l : List Int) : Option (Int × List Int) := if k ≤ l.length then some (valB (l.take k), l.drop k) else none
def arcP (l : List Int) : Option (ArcL × List Int) :=
  (takeP 2 l).bind fun p1 => (takeP 2 p1.2).bind fun p2 => (takeP 4 p2.2).bind fun p3 => (takeP 1 p3.2).map fun p4 => (⟨p1.1, p2.1, p3.1, p4.1⟩, p4.2)
def manyP {α : Type} (f : List Int → Option (α × List Int)) : Nat → List Int → Option (List α × List Int)
  | 0, l => some ([], l)
  | n + 1, l => (manyP f n l).bind fun p => (f p.2).map fun q => (p.1 ++ [q.1], q.2)
def stateP (l : List Int) : Option (StateL × List Int) :=
  (takeP 4 l).bind fun p1 => (takeP 2 p1.2).bind fun p2 => (manyP arcP p2.1.toNat p2.2).map fun p3 => (⟨p1.1, p3.1⟩, p3.2)
def machP (l : List Int) : Option (MachL × List Int) :=
  (takeP 1 l).bind fun p1 => (takeP 1 p1.2).bind fun p2 => (manyP stateP p1.1.toNat p2.2).map fun p3 => (⟨p2.1 - 1, p3.1⟩, p3.2)

theorem takeP_put {k : Nat} {l l' : List Int} {n : Int} (h : takeP k l = some (n, l')) (hb : BOk l) : l = putL n k ++ l' ∧ BOk l' ∧ 0 ≤ n ∧ n < 256 ^ k := by
  unfold takeP at h
  split at h
  · rename_i hk
    injection h with h; injection h with h1 h2
    have hbt : BOk (l.take k) := fun c hc => hb c (List.mem_of_mem_take hc)
    have e : (l.take k).length = k := by simp; omega
    have hv := putL_val _ hbt
    have hbd := valB_b _ hbt
    rw [e, h1] at hv hbd
    refine ⟨?_, fun c hc => hb c (by rw [← h2] at hc; exact List.mem_of_mem_drop hc), hbd⟩
    rw [hv, ← h2, List.take_append_drop]
  · cases h
theorem takeP_of {k : Nat} {n : Int} {l : List Int} (h0 : 0 ≤ n) (h1 : n < 256 ^ k) : takeP k (putL n k ++ l) = some (n, l) := by
  unfold takeP
  have e : (putL n k).length = k := putL_len n k
  rw [if_pos (by rw [List.length_append, e]; omega), List.take_left' e, List.drop_left' e, valB_of n k h0 h1]
theorem arcP_enc {l l' : List Int} {a : ArcL} (h : arcP l = some (a, l')) (hb : BOk l) : l = encA a ++ l' ∧ BOk l' := by
  unfold arcP at h
  obtain ⟨⟨i, l1⟩, h1, h⟩ := Option.bind_eq_some_iff.1 h
  obtain ⟨⟨o, l2⟩, h2, h⟩ := Option.bind_eq_some_iff.1 h
  obtain ⟨⟨w, l3⟩, h3, h⟩ := Option.bind_eq_some_iff.1 h
  obtain ⟨⟨t, l4⟩, h4, h⟩ := Option.map_eq_some_iff.1 h
  injection h with e1 e2
  obtain ⟨g1, b1, -⟩ := takeP_put h1 hb
  obtain ⟨g2, b2, -⟩ := takeP_put h2 b1
  obtain ⟨g3, b3, -⟩ := takeP_put h3 b2
  obtain ⟨g4, b4, -⟩ := takeP_put h4 b3
  subst e1; subst e2
  refine ⟨?_, b4⟩
  unfold encA
  simp only at *
  rw [g1, g2, g3, g4]; simp
theorem manyP_enc {α : Type} {f : List Int → Option (α × List Int)} {enc : α → List Int} (hf : ∀ l l' a, f l = some (a, l') → BOk l → l = enc a ++ l' ∧ BOk l') :
    ∀ (n : Nat) (l l' : List Int) (xs : List α), manyP f n l = some (xs, l') → BOk l → l = xs.flatMap enc ++ l' ∧ BOk l' ∧ xs.length = n
  | 0, l, l', xs, h, hb => by
    injection h with h; injection h with h1 h2
    subst h1; subst h2; exact ⟨rfl, hb, rfl⟩
  | n + 1, l, l', xs, h, hb => by
    unfold manyP at h
    obtain ⟨⟨xs1, l1⟩, h1, h⟩ := Option.bind_eq_some_iff.1 h
    obtain ⟨⟨a, l2⟩, h2, h⟩ := Option.map_eq_some_iff.1 h
    injection h with e1 e2
    obtain ⟨g1, b1, n1⟩ := manyP_enc hf n l l1 xs1 h1 hb
    obtain ⟨g2, b2⟩ := hf _ _ _ h2 b1
    simp only at *
    subst e1; subst e2
    exact ⟨by rw [g1, g2]; simp, b2, by simp [n1]⟩
theorem stateP_enc {l l' : List Int} {s : StateL} (h : stateP l = some (s, l')) (hb : BOk l) : l = encS s ++ l' ∧ BOk l' := by
  unfold stateP at h
  obtain ⟨⟨f, l1⟩, h1, h⟩ := Option.bind_eq_some_iff.1 h
  obtain ⟨⟨n, l2⟩, h2, h⟩ := Option.bind_eq_some_iff.1 h
  obtain ⟨⟨xs, l3⟩, h3, h⟩ := Option.map_eq_some_iff.1 h
  injection h with e1 e2
  obtain ⟨g1, b1, -⟩ := takeP_put h1 hb
  obtain ⟨g2, b2, n0, n1⟩ := takeP_put h2 b1
  simp only at *
  obtain ⟨g3, b3, n3⟩ := manyP_enc (enc := encA) (fun _ _ _ => arcP_enc) _ _ _ _ h3 b2
  subst e1; subst e2
  refine ⟨?_, b3⟩
  unfold encS
  simp only
  rw [n3, Int.toNat_of_nonneg n0, g1, g2, g3]; simp
/-- bytes that are a machine are the machine's bytes -/
theorem machP_enc {l : List Int} {m : MachL} (h : machP l = some (m, [])) (hb : BOk l) : 84 :: l = encM m := by
  unfold machP at h
  obtain ⟨⟨n, l1⟩, h1, h⟩ := Option.bind_eq_some_iff.1 h
  obtain ⟨⟨st, l2⟩, h2, h⟩ := Option.bind_eq_some_iff.1 h
  obtain ⟨⟨ss, l3⟩, h3, h⟩ := Option.map_eq_some_iff.1 h
  injection h with e1 e2
  obtain ⟨g1, b1, n0, n1⟩ := takeP_put h1 hb
  obtain ⟨g2, b2, s0, s1⟩ := takeP_put h2 b1
  simp only at *
  obtain ⟨g3, b3, n3⟩ := manyP_enc (enc := encS) (fun _ _ _ => stateP_enc) _ _ _ _ h3 b2
  subst e1; subst e2
  unfold encM
  simp only
  rw [n3, Int.toNat_of_nonneg n0, g1, g2, g3]
  have k1 : putL n 1 = [n] := by simp [putL]; omega
  have k2 : putL st 1 = [st] := by simp [putL]; omega
  rw [k1, k2]; simp

theorem arcP_of {a : ArcL} {l : List Int} (h : (0 ≤ a.inn ∧ a.inn ≤ 1000) ∧ (0 ≤ a.out ∧ a.out ≤ 1000) ∧ (0 ≤ a.wt ∧ a.wt ≤ 1000000000) ∧ 0 ≤ a.to ∧ a.to < 60) : arcP (encA a ++ l) = some (a, l) := by
  obtain ⟨⟨h1, h2⟩, ⟨h3, h4⟩, ⟨h5, h6⟩, h7, h8⟩ := h
  have e2 : (256 : Int) ^ 2 = 65536 := rfl
  have e4 : (256 : Int) ^ 4 = 4294967296 := rfl
  have e1 : (256 : Int) ^ 1 = 256 := rfl
  unfold arcP encA
  simp only [List.append_assoc]
  rw [takeP_of h1 (by rw [e2]; omega)]; simp only [Option.bind_some]
  rw [takeP_of h3 (by rw [e2]; omega)]; simp only [Option.bind_some]
  rw [takeP_of h5 (by rw [e4]; omega)]; simp only [Option.bind_some]
  rw [takeP_of h7 (by rw [e1]; omega)]; rfl
theorem manyP_all {α : Type} (f : List Int → Option (α × List Int)) (enc : α → List Int) : ∀ (n : Nat) (xs : List α) (l : List Int), xs.length = n → (∀ a ∈ xs, ∀ l, f (enc a ++ l) = some (a, l)) → manyP f n (xs.flatMap enc ++ l) = some (xs, l)
  | 0, xs, l, hn, _ => by
    have : xs = [] := List.eq_nil_of_length_eq_zero hn
    subst this; rfl
  | n + 1, xs, l, hn, h => by
    have hne : xs ≠ [] := fun e => by rw [e] at hn; cases hn
    have e := (List.dropLast_concat_getLast hne).symm
    generalize xs.getLast hne = a at *
    have hl : xs.dropLast.length = n := by simp; omega
    generalize xs.dropLast = bs at *
    subst e
    rw [List.flatMap_append, List.append_assoc]
    unfold manyP
    rw [manyP_all f enc n bs _ hl fun x hx => h x (by simp [hx])]
    simp only [Option.bind_some, List.flatMap_cons, List.flatMap_nil, List.append_nil]
    rw [h a (by simp)]; rfl
theorem stateP_of {n : Int} {s : StateL} (hn : n ≤ 60) (hf : ValidFinal s.final) (ha : ∀ a ∈ s.arcs, ValidArc n a) (hl : s.arcs.length ≤ 400) (l : List Int) : stateP (encS s ++ l) = some (s, l) := by
  have e4 : (256 : Int) ^ 4 = 4294967296 := rfl
  have e2 : (256 : Int) ^ 2 = 65536 := rfl
  unfold ValidFinal at hf
  unfold stateP encS
  simp only [List.append_assoc]
  rw [takeP_of (by omega) (by rw [e4]; omega)]; simp only [Option.bind_some]
  rw [takeP_of (by omega) (by rw [e2]; omega)]; simp only [Option.bind_some]
  rw [show ((s.arcs.length : Int)).toNat = s.arcs.length from Int.toNat_natCast _, manyP_all arcP encA s.arcs.length s.arcs l rfl fun a h l => arcP_of (by have := ha a h; exact ⟨⟨this.i0, this.i1⟩, ⟨this.o0, this.o1⟩, ⟨this.w0, this.w1⟩, this.t0, by have := this.t1; omega⟩)]
  rfl
theorem machP_of {m : MachL} (hv : Valid m) (hal : ∀ s ∈ m.states, s.arcs.length ≤ 400) : ∃ l, encM m = 84 :: l ∧ machP l = some (m, []) := by
  refine ⟨_, rfl, ?_⟩
  have hs := hv.size; have h0 := hv.s0; have h1 := hv.s1
  have e1 : (256 : Int) ^ 1 = 256 := rfl
  have k1 : putL (m.states.length : Int) 1 = [(m.states.length : Int)] := by simp [putL]; omega
  have k2 : putL (m.start + 1) 1 = [m.start + 1] := by simp [putL]; omega
  have e : ((m.states.length : Int) :: (m.start + 1) :: m.states.flatMap encS) = putL (m.states.length : Int) 1 ++ (putL (m.start + 1) 1 ++ (m.states.flatMap encS ++ [])) := by rw [k1, k2]; simp
  rw [e]
  unfold machP
  rw [takeP_of (by omega) (by rw [e1]; omega)]; simp only [Option.bind_some]
  rw [takeP_of (by omega) (by rw [e1]; omega)]; simp only [Option.bind_some]
  rw [show ((m.states.length : Int)).toNat = m.states.length from Int.toNat_natCast _, manyP_all stateP encS m.states.length m.states [] rfl fun s h l => stateP_of (n := m.states.length) (by omega) (hv.st s h).1 (hv.st s h).2 (hal s h) l]
  simp
end Go.Proofs.YtajbfhdkghofbaaGreatDoor
