/- Remove's answer as the laws use it. -/
import Derived.Test.YtlfjccgbngnjhaaRemove
import Derived.Test.YtlfjccgbngnjhaaMerged
import Derived.Test.YtlfjccgbngnjhaaTells
import Derived.Test.YtlfjccgbngnjhaaAlike
import Derived.Test.YtlfjccgbngnjhaaIntArg
namespace Go.Proofs.Ytlfjccgbngnjhaa
open Go.RowKit

theorem lt3_ord {a b : ArcL} (h : lt3 a b) : ordK readKy a b ≤ 0 := by
  unfold lt3 at h
  simp only [ordK, readKy, lexL_cons] at *
  have e : lexL [] [] = 0 := rfl
  rw [e] at h
  by_cases h1 : cmp3 a.inn b.inn = 0
  · rw [if_pos h1] at h ⊢
    by_cases h2 : cmp3 a.out b.out = 0
    · rw [if_pos h2] at h ⊢
      by_cases h3 : cmp3 a.to b.to = 0
      · rw [if_pos h3] at h; omega
      · rw [if_neg h3] at h ⊢; omega
    · rw [if_neg h2] at h ⊢; omega
  · rw [if_neg h1] at h ⊢; omega
theorem mem_arcsQ {x : MachL} {s : StateL} (hs : s ∈ x.states) : ∃ i, i < x.states.length ∧ arcsQ x i = s.arcs ∧ finQ x i = s.final := by
  obtain ⟨i, hi, rfl⟩ := List.getElem_of_mem hs
  exact ⟨i, hi, by unfold arcsQ; rw [List.getElem?_eq_getElem hi]; rfl, by unfold finQ; rw [List.getElem?_eq_getElem hi]; rfl⟩
theorem fullA_not (a : ArcL) : fullA a = !emptyA a := rfl
theorem RemR.bits {m x : MachL} (h : RemR m x) : (bitsOf x.states).full = true ∧ (bitsOf x.states).sorted = true := by
  simp only [bitsOf, bitsT_eq]
  constructor
  · rw [List.all_eq_true]
    intro s hs
    rw [List.all_eq_true]
    intro a ha
    obtain ⟨i, -, h2, -⟩ := mem_arcsQ hs
    rw [fullA_not, h.noEmpty i a (by rw [h2]; exact ha)]; rfl
  · rw [List.all_eq_true]
    intro s hs
    obtain ⟨i, h1, h2, -⟩ := mem_arcsQ hs
    refine sortedL_true (sorted_sortK _ ?_)
    rw [← h2]
    exact (h.arcs i (by rw [← h.len]; exact h1)).ord.imp lt3_ord
theorem made_noEmpty (r : RawL) (k : Int) : NoEmpty (mkMach r k true) := by
  have h := made_full r k
  simp only [bitsOf, bitsT_eq] at h
  intro p a ha
  obtain ⟨s, hs, hm⟩ := arcsQ_in ha
  rw [List.all_eq_true] at h
  have h2 := h s hs
  rw [List.all_eq_true] at h2
  have h3 := h2 a hm
  rw [fullA_not] at h3
  simpa using h3
theorem made_remOk (r : RawL) (full : Bool) : RemOk (mkMach r 6 full) 9 := by
  have h1 := made_little r 6 full (by omega)
  refine ⟨h1.len, by omega, by omega, h1.wt, h1.fin, fun s hs a ha => ?_⟩
  unfold mkMach mkStates at hs
  obtain ⟨q, -, rfl⟩ := List.mem_map.1 hs
  unfold mkState at ha
  split at ha
  · cases ha
  · unfold mkArcs at ha
    obtain ⟨e, -, rfl⟩ := List.mem_map.1 ha
    have h2 := pick_hi e.inn 3 (by omega); have h3 := pick_hi e.out 3 (by omega)
    unfold mkArc
    simp only
    split <;> omega
theorem RemX.ok {m x : MachL} (h : RemX m x (m.states.length * 9 + 9)) (h6 : m.states.length ≤ 6) : RemOk x 63 := by
  refine ⟨by rw [h.rem.len]; exact h6, by omega, by omega, fun s hs a ha => ?_, fun s hs hf => ?_, h.lab⟩
  · have := (h.bnd s hs).2 a ha; omega
  · rcases (h.bnd s hs).1 with e | e
    · exact absurd e hf
    · omega
theorem RemX.costOk {m x : MachL} (h : RemX m x (m.states.length * 9 + 9)) (h6 : m.states.length ≤ 6) {lx ly : Nat} (hx : lx ≤ 4) (hy : ly ≤ 4) : CostOk x lx ly := by
  have ho := h.ok h6
  exact costOk_of 6 4 4 63 63 54 ho.n6 hx hy (by omega) (by omega) ho.wt ho.fin h.few (by omega) (by omega)
theorem eq_same (a b : Nat) (h : a = b) : ((a : Int) == (b : Int)) = true := by subst h; simp
end Go.Proofs.Ytlfjccgbngnjhaa
