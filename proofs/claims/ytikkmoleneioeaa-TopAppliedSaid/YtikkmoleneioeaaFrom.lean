/- distance.From walked. -/
import Derived.Test.YtikkmoleneioeaaDist
import Derived.Test.YtikkmoleneioeaaRegionLast
import Derived.Deep.RegionHeld3
namespace Go.Proofs.Ytikkmoleneioeaa
open Go.RowKit

def fF (q : Nat) (a : ArcL) : Nat × (Nat × Int) := (q, (a.to.toNat, a.wt))
def gF (_ : StateL) : Int := 1000000001
/-- what it costs to be in a state at first -/
def fromFirst (m : MachL) : List Int := if 0 ≤ m.start then (m.states.map gF).set m.start.toNat 0 else m.states.map gF
def fromE (m : MachL) : Edges := addEs m.states.length (pairsTo fF m.states m.states.length)

theorem From_ok {m : MachL} (hv : Valid m) : FarOk m.states.length (fromFirst m) (fromE m) := by
  have hp : ∀ x ∈ pairsTo fF m.states m.states.length, x.1 < m.states.length ∧ x.2.1 < m.states.length ∧ 0 ≤ x.2.2 ∧ x.2.2 ≤ 1000000000 := by
    intro x hx
    obtain ⟨q, hq, hl, a, ha, rfl⟩ := (pairsTo_mem _ _ _ _).1 hx
    have h1 := (hv.st _ (List.getElem_mem hl)).2 a ha
    have := h1.t0; have := h1.t1; have := h1.w0; have := h1.w1
    simp only [fF]
    omega
  refine ⟨by unfold fromFirst; split <;> simp, addEs_len _ _, fun x hx => ?_, fun l hl e he => ?_⟩
  · unfold fromFirst at hx
    split at hx
    · rcases List.mem_or_eq_of_mem_set hx with h | h
      · obtain ⟨s, -, rfl⟩ := List.mem_map.1 h; simp [gF]
      · subst h; omega
    · obtain ⟨s, -, rfl⟩ := List.mem_map.1 hx; simp [gF]
  · obtain ⟨q, hq, rfl⟩ := List.getElem_of_mem hl
    have hg : (fromE m).getD q [] = (fromE m)[q] := by simp [List.getD_eq_getElem?_getD, hq]
    rw [← hg] at he
    have := hp _ ((addEs_mem _ _ (fun y hy => (hp y hy).1) q e).1 he)
    exact this.2
theorem From_mem {m : MachL} (hv : Valid m) (q : Nat) (e : Nat × Int) : e ∈ (fromE m).getD q [] ↔ ∃ p, ∃ h : p < m.states.length, ∃ a ∈ m.states[p].arcs, fF p a = (q, e) := by
  unfold fromE
  rw [addEs_mem]
  · rw [pairsTo_mem]
    constructor
    · rintro ⟨p, _, h⟩; exact ⟨p, h⟩
    · rintro ⟨p, h, r⟩; exact ⟨p, h, h, r⟩
  · intro x hx
    obtain ⟨q, hq, hl, a, ha, rfl⟩ := (pairsTo_mem _ _ _ _).1 hx
    have h1 := (hv.st _ (List.getElem_mem hl)).2 a ha
    have := h1.t0; have := h1.t1
    simp only [fF]
    omega

end Go.Proofs.Ytikkmoleneioeaa
