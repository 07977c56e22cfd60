/- Invert, Reads, Writes; alike. -/
import Derived.Test.YteniblkmokpjjaaTurn
namespace Go.Proofs.Yteniblkmokpjjaa
open Go.RowKit

theorem eachM_valid {F : ArcL → ArcL} (hF : ∀ (n : Int) a, ValidArc n a → ValidArc n (F a)) {m : MachL} (h : Valid m) : Valid (eachM F m) := by
  have hl : (eachM F m).states.length = m.states.length := by simp [eachM]
  refine ⟨by rw [hl]; exact h.size, ?_, h.s0, by rw [hl]; exact h.s1, ?_⟩
  · have : arcsOf (eachM F m).states = arcsOf m.states := by
      unfold arcsOf eachM; simp only [List.map_map]; congr 1; apply List.map_congr_left; intro s _; simp
    rw [this]; exact h.arcs
  · intro s hs
    rw [hl]
    unfold eachM at hs
    obtain ⟨s0, h0, rfl⟩ := List.mem_map.1 hs
    refine ⟨(h.st s0 h0).1, fun a ha => ?_⟩
    obtain ⟨a0, ha0, rfl⟩ := List.mem_map.1 ha
    exact hF _ _ ((h.st s0 h0).2 a0 ha0)

end Go.Proofs.Yteniblkmokpjjaa
