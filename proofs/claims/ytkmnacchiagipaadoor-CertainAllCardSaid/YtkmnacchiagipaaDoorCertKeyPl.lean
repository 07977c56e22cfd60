/- The text that stands for a set of states (plain): two sets have two texts. -/
/- certain: sets and pairs of labels in memory; the keys of its maps. -/
import Derived.Test.YtkmnacchiagipaaDoorCertPlain
import Derived.Test.YtkmnacchiagipaaDoorDigits
import Derived.Test.YtkmnacchiagipaaDoorMapRange
import Derived.Test.YtkmnacchiagipaaDoorBuild
import Derived.LoopTactic
import Derived.IntWalk
namespace Go.Proofs.YtkmnacchiagipaaDoor
open Go.RowKit Go.Lib

def partT (p : Nat × Int) : List UInt8 := decDigits p.1 ++ (58 :: (decDigits p.2.toNat ++ [32]))
def keyT (S : SetL) : List UInt8 := S.flatMap partT
theorem digs_split : ∀ {l l' : List UInt8} {b b' : UInt8} {r r' : List UInt8}, (∀ x ∈ l, IsDig x) → (∀ x ∈ l', IsDig x) → ¬ IsDig b → ¬ IsDig b' → l ++ b :: r = l' ++ b' :: r' → l = l' ∧ b = b' ∧ r = r'
  | [], [], b, b', r, r', _, _, _, _, h => by
    simp only [List.nil_append, List.cons.injEq] at h
    exact ⟨rfl, h.1, h.2⟩
  | [], x :: l', b, b', r, r', _, h2, h3, _, h => by
    simp only [List.nil_append, List.cons_append, List.cons.injEq] at h
    exact absurd (h.1 ▸ h2 x (by simp)) h3
  | x :: l, [], b, b', r, r', h1, _, _, h4, h => by
    simp only [List.nil_append, List.cons_append, List.cons.injEq] at h
    exact absurd (h.1 ▸ h1 x (by simp)) h4
  | x :: l, y :: l', b, b', r, r', h1, h2, h3, h4, h => by
    simp only [List.cons_append, List.cons.injEq] at h
    obtain ⟨g1, g2, g3⟩ := digs_split (fun z hz => h1 z (by simp [hz])) (fun z hz => h2 z (by simp [hz])) h3 h4 h.2
    exact ⟨by rw [h.1, g1], g2, g3⟩
theorem dec_inj {u v : Nat} (h : decDigits u = decDigits v) : u = v := by
  have h1 := dec_from u
  rw [h, dec_from v] at h1
  exact (Option.some.inj h1).symm
theorem partT_split {p q : Nat × Int} (hp : 0 ≤ p.2) (hq : 0 ≤ q.2) {r r' : List UInt8} (h : partT p ++ r = partT q ++ r') : p = q ∧ r = r' := by
  have n1 : ¬ IsDig 58 := by unfold IsDig; decide
  have n2 : ¬ IsDig 32 := by unfold IsDig; decide
  unfold partT at h
  simp only [List.append_assoc, List.cons_append, List.nil_append] at h
  obtain ⟨h1, -, h2⟩ := digs_split (dec_digs _) (dec_digs _) n1 n1 h
  obtain ⟨h3, -, h4⟩ := digs_split (dec_digs _) (dec_digs _) n2 n2 h2
  have e1 := dec_inj h1; have e2 := dec_inj h3
  refine ⟨Prod.ext e1 ?_, h4⟩
  have : (p.2.toNat : Int) = q.2.toNat := by omega
  omega
theorem partT_ne (p : Nat × Int) : partT p ≠ [] := by unfold partT; simp
theorem keyT_inj : ∀ {S T : SetL}, (∀ p ∈ S, 0 ≤ p.2) → (∀ p ∈ T, 0 ≤ p.2) → keyT S = keyT T → S = T
  | [], [], _, _, _ => rfl
  | [], q :: T, _, _, h => by
    simp only [keyT, List.flatMap_nil, List.flatMap_cons] at h
    have := partT_ne q
    exact absurd (List.append_eq_nil_iff.1 h.symm).1 this
  | p :: S, [], _, _, h => by
    simp only [keyT, List.flatMap_nil, List.flatMap_cons] at h
    have := partT_ne p
    exact absurd (List.append_eq_nil_iff.1 h).1 this
  | p :: S, q :: T, h1, h2, h => by
    simp only [keyT, List.flatMap_cons] at h
    obtain ⟨rfl, h3⟩ := partT_split (h1 p (by simp)) (h2 q (by simp)) h
    rw [keyT_inj (fun x hx => h1 x (by simp [hx])) (fun x hx => h2 x (by simp [hx])) h3]
theorem keyT_snoc (S : SetL) (p : Nat × Int) : keyT (S ++ [p]) = keyT S ++ partT p := by simp [keyT]
theorem partT_len {p : Nat × Int} (h1 : p.1 < 1000) (h2 : p.2 < 10000000000) : (partT p).length ≤ 20 := by
  have g1 := dec_len (u := p.1) (k := 2) (by omega)
  have g2 := dec_len (u := p.2.toNat) (k := 9) (by omega)
  unfold partT; simp; omega
theorem keyT_len : ∀ {S : SetL}, (∀ p ∈ S, p.1 < 1000 ∧ p.2 < 10000000000) → (keyT S).length ≤ 20 * S.length
  | [], _ => by simp [keyT]
  | p :: S, h => by
    have h1 := partT_len (h p (by simp)).1 (h p (by simp)).2
    have h2 := keyT_len fun q hq => h q (List.mem_cons_of_mem _ hq)
    simp only [keyT, List.flatMap_cons, List.length_append, List.length_cons] at *
    omega
end Go.Proofs.YtkmnacchiagipaaDoor

namespace Go.Proofs.YtkmnacchiagipaaDoor
open Go.RowKit
open Go.ChangeMaps (setBlock)

abbrev strC (s : List UInt8) : Value := .string ⟨s.toArray⟩
theorem strC_beq (a b : List UInt8) : ((⟨a.toArray⟩ : ByteArray) == ⟨b.toArray⟩) = decide (a = b) := by
  rw [Bool.eq_iff_iff, MapKept.bytes_beq, decide_eq_true_iff]
  constructor
  · intro h
    have h2 := congrArg (fun x : ByteArray => x.data.toList) h
    simpa using h2
  · intro h; rw [h]
theorem keyOkStrC : KeyOk Tryd.prog 9 strC where
  chk e k w := by cases e <;> kernel_rfl
  eq a b w := by
    show (Op.equalIn 10000 _ _ _).run _ w = _
    rw [show (10000 : Nat) = 9999 + 1 from rfl, Op.equalIn]
    simp only [Sem.run_bind, run_underlying Tryd.underlying9, Result.andThen_ok, Sem.run_pure, strC_beq]
  stays a := by simp only [Instr.sameBits, strC_beq]; simp
  now a b := ⟨_, Tryd.underlying9, .inr (by simp only [Instr.sameNow, strC_beq])⟩
abbrev natV (n : Nat) : Value := .int .i64 n
theorem keyOkNat : KeyOk Tryd.prog 3 natV where
  chk e k w := by cases e <;> kernel_rfl
  eq a b w := by
    show (Op.equalIn 10000 _ _ _).run _ w = _
    rw [show (10000 : Nat) = 9999 + 1 from rfl, Op.equalIn]
    simp only [Sem.run_bind, run_underlying Tryd.underlying3, Result.andThen_ok, if_true, Sem.run_pure]
    congr 1
    by_cases h : a = b <;> simp [h] <;> omega
  stays a := by simp [Instr.sameBits]
  now a b := ⟨_, Tryd.underlying3, .inr (by simp only [Instr.sameNow, if_true]; by_cases h : a = b <;> simp [h] <;> omega)⟩
abbrev pairV (k : Int × Int) : Value := .agg #[.int .i64 k.1, .int .i64 k.2]
theorem eqPair (a b a' b' : Int) (w : World) : (Op.equalIn 10000 141 (.agg #[.int .i64 a, .int .i64 b]) (.agg #[.int .i64 a', .int .i64 b'])).run Tryd.prog w = .ok (a == a' && b == b') w := by
  have u3 := Tryd.underlying3
  have a3 := Tryd.isAgg3
  have z3 := Tryd.sizeOf3
  rw [show (10000 : Nat) = 9999 + 1 from rfl, run_equalIn_struct w _ _ _ _ (by kernel_rfl) (by kernel_rfl)]
  simp only [Program.fieldsOf, Tryd.underlying141]
  simp [Op.eqFields, part, go_sem, u3, a3, z3]
  by_cases h1 : a = a' <;> by_cases h2 : b = b' <;> simp [h1, h2]
theorem keyOkPair : KeyOk Tryd.prog 141 pairV where
  chk e k w := by cases e <;> kernel_rfl
  eq a b w := by
    obtain ⟨a1, a2⟩ := a; obtain ⟨b1, b2⟩ := b
    show (Op.equalIn 10000 _ _ _).run _ w = _
    rw [eqPair]
    by_cases h1 : a1 = b1 <;> by_cases h2 : a2 = b2 <;> simp [h1, h2]
  stays a := by obtain ⟨a1, a2⟩ := a; simp [Instr.sameBits]
  now a b := ⟨_, Tryd.underlying141, .inl rfl⟩

/-- two numbers, as the cells of a part or of a pair of labels -/
def twoC (p : Int × Int) : List Value := [.int .i64 p.1, .int .i64 p.2]
def twosC (l : List (Int × Int)) : List Value := l.flatMap twoC
theorem twosC_len (l : List (Int × Int)) : (twosC l).length = l.length * 2 := by
  induction l with
  | nil => rfl
  | cons a l ih => simp only [twosC, List.flatMap_cons, List.length_append, List.length_cons] at *; rw [ih]; simp [twoC]; omega
theorem twosC_snoc (l : List (Int × Int)) (p : Int × Int) : twosC (l ++ [p]) = twosC l ++ [.int .i64 p.1, .int .i64 p.2] := by simp [twosC, twoC]
/-- a slice of such reads as l -/
structure TwosAt (w : World) (A : Option Addr) (l : List (Int × Int)) : Prop where
  rdy : Rdy A l.length
  c0 : ∀ i (h : i < l.length), w.cell? ⟨blk A, ofs A + i * 2, none⟩ = some (.int .i64 l[i].1)
  c1 : ∀ i (h : i < l.length), w.cell? ⟨blk A, ofs A + i * 2 + 1, none⟩ = some (.int .i64 l[i].2)
theorem TwosAt.below {w w' : World} {A : Option Addr} {l : List (Int × Int)} (h : TwosAt w A l) {B : Nat} (hb : Below B w w') (hB : w.heap.size ≤ B) : TwosAt w' A l :=
  ⟨h.rdy, fun i hi => cell_keep hb hB (h.c0 i hi), fun i hi => cell_keep hb hB (h.c1 i hi)⟩
theorem TwosAt.of_rd {w : World} {A : Option Addr} {n : Nat} {l : List (Int × Int)} (r : Rd w A n 2 (twosC l)) : TwosAt w A l := by
  have hn : n = l.length := by have h1 := r.len; rw [twosC_len] at h1; omega
  subst hn
  have q : ∀ i (hi : i < l.length) (j : Nat) (hj : j < 2), w.cell? ⟨blk A, ofs A + (i * 2 + j), none⟩ = (twoC l[i])[j]? := by
    intro i hi j hj
    have e := flatMap_at twoC 2 (fun _ => rfl) l i hi j hj
    have hlt : i * 2 + j < (twosC l).length := by rw [twosC_len]; omega
    rw [r.cell (i * 2 + j) hlt, ← e]
    show some _ = (twosC l)[i * 2 + j]?
    rw [List.getElem?_eq_getElem hlt]
  refine ⟨?_, fun i hi => ?_, fun i hi => ?_⟩
  · exact fun h => r.rdy h
  · exact q i hi 0 (by omega)
  · have := q i hi 1 (by omega)
    rwa [← Nat.add_assoc] at this
abbrev OwnTwos (ty : TypeId) (w : World) (B : Nat) (v : Value) (l : List (Int × Int)) : Prop := w.ownsRow B ty 2 v l.length (twosC l)
theorem TwosAt.of_own {ty : TypeId} {w : World} {B n : Nat} {A : Option Addr} {c : Nat} {l : List (Int × Int)} (h : w.ownsRow B ty 2 (.slice A n c) n (twosC l)) : TwosAt w A l := .of_rd (Rd.of_own h)
/-- a set's numbers -/
def setI (S : SetL) : List (Int × Int) := S.map fun p => ((p.1 : Int), p.2)
theorem setI_len (S : SetL) : (setI S).length = S.length := by simp [setI]
theorem setI_get (S : SetL) (i : Nat) (h : i < S.length) : (setI S)[i]'(by rw [setI_len]; exact h) = ((S[i].1 : Int), S[i].2) := by simp [setI]
/-- a slice reads as a set -/
def SetAt (w : World) (A : Option Addr) (S : SetL) : Prop := TwosAt w A (setI S)
theorem SetAt.below {w w' : World} {A : Option Addr} {S : SetL} (h : SetAt w A S) {B : Nat} (hb : Below B w w') (hB : w.heap.size ≤ B) : SetAt w' A S := TwosAt.below h hb hB
theorem SetAt.rdy {w : World} {A : Option Addr} {S : SetL} (h : SetAt w A S) : Rdy A S.length := by have := TwosAt.rdy h; rwa [setI_len] at this
theorem SetAt.c0 {w : World} {A : Option Addr} {S : SetL} (h : SetAt w A S) (i : Nat) (hi : i < S.length) : w.cell? ⟨blk A, ofs A + i * 2, none⟩ = some (.int .i64 (S[i].1 : Int)) := by
  have := TwosAt.c0 h i (by rw [setI_len]; exact hi)
  rwa [setI_get S i hi] at this
theorem SetAt.c1 {w : World} {A : Option Addr} {S : SetL} (h : SetAt w A S) (i : Nat) (hi : i < S.length) : w.cell? ⟨blk A, ofs A + i * 2 + 1, none⟩ = some (.int .i64 S[i].2) := by
  have := TwosAt.c1 h i (by rw [setI_len]; exact hi)
  rwa [setI_get S i hi] at this
theorem eltPart : Elt Tryd.prog 132 130 (.agg #[.int .i64 0, .int .i64 0]) 2 16 := ⟨Tryd.underlying132, by kernel_rfl, rfl, by omega⟩
theorem eltPair : Elt Tryd.prog 139 141 (.agg #[.int .i64 0, .int .i64 0]) 2 16 := ⟨Tryd.underlying139, by kernel_rfl, rfl, by omega⟩
theorem eltSet : Elt Tryd.prog 135 132 (.slice none 0 0) 1 24 := ⟨Tryd.underlying135, by kernel_rfl, rfl, by omega⟩
end Go.Proofs.YtkmnacchiagipaaDoor
