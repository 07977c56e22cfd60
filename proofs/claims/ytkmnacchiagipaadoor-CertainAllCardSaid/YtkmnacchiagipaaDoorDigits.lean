/- Decimal numerals as lists of bytes: what is shown is read, and what is read is shown (plain). -/
import Derived.Test.YtkmnacchiagipaaDoorRows
import Derived.Lib.ItoaNum
import Derived.Lib.Atoi
import Derived.Lib.SlTrimSet
namespace Go.Proofs.YtkmnacchiagipaaDoor
open Go.Lib

def digs : List UInt8 := [48, 49, 50, 51, 52, 53, 54, 55, 56, 57]
def IsDig (b : UInt8) : Prop := 48 ≤ b.toNat ∧ b.toNat ≤ 57
theorem isDig_iff (b : UInt8) : digs.contains b = true ↔ IsDig b := by
  unfold IsDig
  have key : ∀ n : Fin 256, digs.contains (UInt8.ofNat n.val) = true ↔ 48 ≤ n.val ∧ n.val ≤ 57 := by decide +kernel
  have h := key ⟨b.toNat, b.toNat_lt⟩
  simpa using h
theorem dig_toNat {d : Nat} (h : d < 10) : (UInt8.ofNat (48 + d)).toNat = 48 + d := by
  rw [UInt8.toNat_ofNat']; omega
theorem dig_ok {d : Nat} (h : d < 10) : IsDig (UInt8.ofNat (48 + d)) := by unfold IsDig; rw [dig_toNat h]; omega
theorem dig_val {d : Nat} (h : d < 10) : digitVal (UInt8.ofNat (48 + d)) = some d := by
  unfold digitVal; rw [dig_toNat h, if_pos (by omega)]; congr 1; omega
theorem val_dig {b : UInt8} (h : IsDig b) : digitVal b = some (b.toNat - 48) ∧ b.toNat - 48 < 10 ∧ UInt8.ofNat (48 + (b.toNat - 48)) = b := by
  unfold IsDig at h
  refine ⟨by unfold digitVal; rw [if_pos h], by omega, ?_⟩
  rw [show 48 + (b.toNat - 48) = b.toNat by omega]
  exact UInt8.ofNat_toNat
theorem decFrom_app (l : List UInt8) : ∀ (acc : Nat) (b : UInt8), decFrom acc (l ++ [b]) = (decFrom acc l).bind fun n => (digitVal b).map fun d => n * 10 + d := by
  induction l with
  | nil =>
    intro acc b
    simp only [List.nil_append, decFrom, Option.bind_some]
    cases digitVal b <;> rfl
  | cons a l ih =>
    intro acc b
    simp only [List.cons_append, decFrom]
    cases digitVal a with
    | none => rfl
    | some d => exact ih _ b
theorem dec_small {u : Nat} (h : u < 10) : decDigits u = [UInt8.ofNat (48 + u)] := by rw [decDigits, dif_pos h]
theorem dec_big {u : Nat} (h : ¬ u < 10) : decDigits u = decDigits (u / 10) ++ [UInt8.ofNat (48 + u % 10)] := by rw [decDigits, dif_neg h]
theorem dec_ne (u : Nat) : decDigits u ≠ [] := by
  by_cases h : u < 10
  · rw [dec_small h]; simp
  · rw [dec_big h]; simp
theorem dec_digs (u : Nat) : ∀ b ∈ decDigits u, IsDig b := by
  induction u using Nat.strongRecOn with
  | _ u ih =>
    by_cases h : u < 10
    · rw [dec_small h]; intro b hb; rcases List.mem_singleton.1 hb with rfl; exact dig_ok h
    · rw [dec_big h]; intro b hb
      rcases List.mem_append.1 hb with hb | hb
      · exact ih (u / 10) (by omega) b hb
      · rcases List.mem_singleton.1 hb with rfl; exact dig_ok (by omega)
theorem dec_from (u : Nat) : decFrom 0 (decDigits u) = some u := by
  induction u using Nat.strongRecOn with
  | _ u ih =>
    by_cases h : u < 10
    · rw [dec_small h]; unfold decFrom; rw [dig_val h]; simp [decFrom]
    · rw [dec_big h, decFrom_app, ih (u / 10) (by omega), dig_val (by omega)]
      simp only [Option.bind_some, Option.map_some, Option.some.injEq]; omega
theorem dec_len {u k : Nat} (h : u < 10 ^ (k + 1)) : (decDigits u).length ≤ k + 1 := by
  induction k generalizing u with
  | zero => rw [dec_small (by simpa using h)]; simp
  | succ k ih =>
    by_cases h1 : u < 10
    · rw [dec_small h1]; simp
    · rw [dec_big h1, List.length_append]
      have := ih (u := u / 10) (by rw [Nat.pow_succ] at h; omega)
      simp; omega
/-- the first digit is no 0, but for 0 itself -/
theorem dec_head (u : Nat) : (decDigits u)[0]? = some 48 ↔ u = 0 := by
  induction u using Nat.strongRecOn with
  | _ u ih =>
    by_cases h : u < 10
    · rw [dec_small h]
      simp only [List.getElem?_cons_zero, Option.some.injEq]
      constructor
      · intro e
        have := congrArg UInt8.toNat e
        rw [dig_toNat h] at this
        have h2 : (48 : UInt8).toNat = 48 := rfl
        omega
      · rintro rfl; rfl
    · rw [dec_big h]
      have hne := dec_ne (u / 10)
      have hl : 0 < (decDigits (u / 10)).length := List.length_pos_iff.2 hne
      rw [List.getElem?_append_left hl, ih (u / 10) (by omega)]
      constructor
      · intro e; omega
      · intro e; omega
theorem atoi_digs {l : List UInt8} (hne : l ≠ []) (hd : ∀ b ∈ l, IsDig b) : atoi l = (decFrom 0 l).map fun (m : Nat) => (m : Int) := by
  cases l with
  | nil => exact absurd rfl hne
  | cons b r =>
    have h := hd b (by simp)
    have h1 : (b == 45) = false := by
      rw [beq_eq_false_iff_ne]; rintro rfl; unfold IsDig at h; exact absurd h.1 (by decide)
    have h2 : (b == 43) = false := by
      rw [beq_eq_false_iff_ne]; rintro rfl; unfold IsDig at h; exact absurd h.1 (by decide)
    unfold atoi
    simp only [h1, h2]
    rfl
theorem atoi_dec (u : Nat) : atoi (decDigits u) = some (u : Int) := by
  rw [atoi_digs (dec_ne u) (dec_digs u), dec_from]; rfl
theorem from_some : ∀ (l : List UInt8) (acc : Nat), (∀ b ∈ l, IsDig b) → ∃ n, decFrom acc l = some n ∧ acc ≤ n ∧ n < (acc + 1) * 10 ^ l.length := by
  intro l
  induction l with
  | nil => intro acc _; exact ⟨acc, rfl, Nat.le_refl _, by simp⟩
  | cons b l ih =>
    intro acc h
    obtain ⟨h1, h2, -⟩ := val_dig (h b (by simp))
    obtain ⟨n, e, h3, h4⟩ := ih (acc * 10 + (b.toNat - 48)) (fun c hc => h c (by simp [hc]))
    refine ⟨n, by unfold decFrom; rw [h1]; exact e, by omega, ?_⟩
    rw [List.length_cons, Nat.pow_succ]
    have : (acc * 10 + (b.toNat - 48) + 1) * 10 ^ l.length ≤ ((acc + 1) * 10) * 10 ^ l.length := Nat.mul_le_mul_right _ (by omega)
    rw [Nat.mul_assoc, Nat.mul_comm 10] at this
    omega
/-- a numeral without a 0 ahead is the one that is shown -/
theorem dec_canon : ∀ (k : Nat) (l : List UInt8), l.length = k + 1 → (∀ b ∈ l, IsDig b) → (l[0]? = some 48 → k = 0) → ∀ n, decFrom 0 l = some n → decDigits n = l ∧ (0 < k → 0 < n) := by
  intro k
  induction k with
  | zero =>
    intro l hl hd _ n hn
    match l, hl with
    | [b], _ =>
      obtain ⟨h1, h2, h3⟩ := val_dig (hd b (by simp))
      unfold decFrom at hn
      rw [h1] at hn
      simp only [decFrom, Option.some.injEq] at hn
      rw [Nat.zero_mul, Nat.zero_add] at hn
      subst hn
      rw [dec_small h2, h3]
      exact ⟨rfl, fun h => absurd h (by omega)⟩
  | succ k ih =>
    intro l hl hd h0 n hn
    obtain ⟨l', b, rfl⟩ : ∃ l' b, l = l' ++ [b] := by
      have hne : l ≠ [] := by intro e; rw [e] at hl; simp at hl
      exact ⟨l.dropLast, l.getLast hne, (List.dropLast_concat_getLast hne).symm⟩
    have hl' : l'.length = k + 1 := by simpa using hl
    have hg : (l' ++ [b])[0]? = l'[0]? := List.getElem?_append_left (by omega)
    obtain ⟨h1, h2, h3⟩ := val_dig (hd b (by simp))
    obtain ⟨m, hm, -, -⟩ := from_some l' 0 (fun c hc => hd c (by simp [hc]))
    rw [decFrom_app, hm, h1] at hn
    simp only [Option.bind_some, Option.map_some, Option.some.injEq] at hn
    have hz : l'[0]? ≠ some 48 := fun e => by have := h0 (hg.trans e); omega
    obtain ⟨e1, e2⟩ := ih l' hl' (fun c hc => hd c (by simp [hc])) (fun e => absurd e hz) m hm
    have hm0 : 0 < m := by
      rcases Nat.eq_zero_or_pos m with e | e
      · subst e
        have := (dec_head 0).2 rfl
        rw [e1] at this
        exact absurd this hz
      · exact e
    subst hn
    refine ⟨?_, fun _ => by omega⟩
    rw [dec_big (by omega), show (m * 10 + (b.toNat - 48)) / 10 = m by omega, show (m * 10 + (b.toNat - 48)) % 10 = b.toNat - 48 by omega, e1, h3]
/-- only digits: nothing is left when digits are trimmed off -/
theorem trim_digs (l : List UInt8) : trimS l digs = [] ↔ ∀ b ∈ l, IsDig b := by
  have key : ∀ m : List UInt8, m.dropWhile (digs.contains ·) = [] ↔ ∀ b ∈ m, IsDig b := by
    intro m
    induction m with
    | nil => simp
    | cons a m ih =>
      by_cases ha : digs.contains a = true
      · rw [List.dropWhile_cons_of_pos ha, ih]
        simp [(isDig_iff a).1 ha]
      · rw [List.dropWhile_cons_of_neg ha]
        simp only [List.mem_cons, forall_eq_or_imp]
        exact ⟨fun h => (by cases h), fun h => absurd ((isDig_iff a).2 h.1) ha⟩
  unfold trimS trimLeftS trimRightS
  rw [key]
  constructor
  · intro h
    have h2 : l.reverse.dropWhile (digs.contains ·) = [] := by
      cases hd : l.reverse.dropWhile (digs.contains ·) with
      | nil => rfl
      | cons a t =>
        have ha := h a (by rw [hd]; simp)
        have := List.head?_dropWhile_not (digs.contains ·) l.reverse
        rw [hd] at this
        simp only [List.head?_cons] at this
        rw [(isDig_iff a).2 ha] at this
        simp at this
    intro b hb
    exact (key l.reverse).1 h2 b (by simpa using hb)
  · intro h
    have : l.reverse.dropWhile (digs.contains ·) = [] := (key l.reverse).2 (fun b hb => h b (by simpa using hb))
    rw [this]; simp
end Go.Proofs.YtkmnacchiagipaaDoor
