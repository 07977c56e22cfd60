/- slices.CompactFunc at arcs (plain): what holds between its rounds. -/
import Derived.Test.YtlfjccgbngnjhaaSortPlain
namespace Go.Proofs.Ytlfjccgbngnjhaa
open Go.RowKit

/-- all before k is kept as it stands -/
def OInvC (l : List ArcL) (k : Nat) : Prop := ∀ x, l[k - 1]? = some x → compL l = l.take k ++ compF x (l.drop k)
theorem OInvC.start (l : List ArcL) : OInvC l 1 := by
  intro x hx
  cases l with
  | nil => simp at hx
  | cons a l => simp at hx; subst hx; simp [compL]
theorem OInvC.step {l : List ArcL} {k : Nat} (h : OInvC l k) (hk : 1 ≤ k) (hkl : k < l.length) (hn : alike3 l[k] (l[k - 1]'(by omega)) = false) : OInvC l (k + 1) := by
  intro x hx
  have hx2 : x = l[k] := by simpa [List.getElem?_eq_getElem hkl] using hx.symm
  subst hx2
  have := h _ (List.getElem?_eq_getElem (by omega))
  rw [List.drop_eq_getElem_cons hkl, compF, if_neg (by rw [hn]; simp)] at this
  rw [this, List.take_succ_eq_append_getElem hkl, List.append_assoc]; rfl
theorem OInvC.all {l : List ArcL} {k : Nat} (h : OInvC l k) (hk : k = l.length) (h1 : 1 ≤ k) : compL l = l := by
  have := h _ (List.getElem?_eq_getElem (show k - 1 < l.length by omega))
  rw [this, List.drop_eq_nil_of_le (by omega), List.take_of_length_le (by omega)]; simp [compF]
/-- the row L: k arcs kept, l looked through as far as p -/
structure CInvC (l L : List ArcL) (k p : Nat) : Prop where
  kp : k ≤ p
  pl : p < l.length
  len : L.length = l.length
  same : ∀ i, p ≤ i → L[i]? = l[i]?
  comp : compL l = L.take k ++ compF (l[p]'pl) (l.drop (p + 1))
theorem OInvC.first {l : List ArcL} {k : Nat} (h : OInvC l k) (hk : 1 ≤ k) (hkl : k < l.length) (hn : alike3 l[k] (l[k - 1]'(by omega)) = true) : CInvC l l k k := by
  refine ⟨Nat.le_refl _, hkl, rfl, fun _ _ => rfl, ?_⟩
  have := h _ (List.getElem?_eq_getElem (by omega))
  rw [List.drop_eq_getElem_cons hkl, compF, if_pos hn] at this
  exact this
theorem CInvC.skip {l L : List ArcL} {k p : Nat} (h : CInvC l L k p) (hp : p + 1 < l.length) (hn : alike3 l[p + 1] (l[p]'(by omega)) = true) : CInvC l L k (p + 1) := by
  refine ⟨by have := h.kp; omega, hp, h.len, fun i hi => h.same i (by omega), ?_⟩
  have := h.comp
  rw [List.drop_eq_getElem_cons hp, compF, if_pos hn] at this
  exact this
theorem CInvC.take {l L : List ArcL} {k p : Nat} (h : CInvC l L k p) (hp : p + 1 < l.length) (hn : alike3 l[p + 1] (l[p]'(by omega)) = false) : CInvC l (L.set k l[p + 1]) (k + 1) (p + 1) := by
  have hkl : k < L.length := by rw [h.len]; have := h.kp; omega
  refine ⟨by have := h.kp; omega, hp, by rw [List.length_set]; exact h.len, fun i hi => ?_, ?_⟩
  · rw [List.getElem?_set_ne (by have := h.kp; omega)]; exact h.same i (by omega)
  · have := h.comp
    rw [List.drop_eq_getElem_cons hp, compF, if_neg (by rw [hn]; simp)] at this
    rw [this, List.take_succ_eq_append_getElem (by rw [List.length_set]; exact hkl)]
    rw [List.take_set, List.set_eq_of_length_le (by simp; omega)]
    simp
theorem CInvC.done {l L : List ArcL} {k p : Nat} (h : CInvC l L k p) (hp : p + 1 = l.length) : compL l = L.take k := by
  have := h.comp
  rw [this, hp]; simp [compF]

/-- labels and targets that can be subtracted -/
def BndA (a : ArcL) : Prop := (0 ≤ a.inn ∧ a.inn ≤ 1000000) ∧ (0 ≤ a.out ∧ a.out ≤ 1000000) ∧ (0 ≤ a.to ∧ a.to ≤ 1000000)
theorem firstOf3 (x y z : Int) : (firstOf [x, y, z] == 0) = (x == 0 && y == 0 && z == 0) := by
  have e : firstOf [x, y, z] = if x = 0 then (if y = 0 then (if z = 0 then 0 else z) else y) else x := rfl
  rw [e]
  by_cases h1 : x = 0
  · rw [if_pos h1]
    by_cases h2 : y = 0
    · rw [if_pos h2]
      by_cases h3 : z = 0
      · rw [if_pos h3]; simp [h1, h2, h3]
      · rw [if_neg h3]; simp [h1, h2]
    · rw [if_neg h2]; simp [h1, h2]
  · rw [if_neg h1]
    have hf : (x == 0) = false := by simpa using h1
    rw [hf]; rfl
theorem alike3_or (a b : ArcL) : (firstOf [a.inn - b.inn, a.out - b.out, a.to - b.to] == 0) = alike3 a b := by
  rw [firstOf3, Bool.eq_iff_iff, alike3_iff]
  simp only [Bool.and_eq_true, beq_iff_eq]
  omega
end Go.Proofs.Ytlfjccgbngnjhaa
