/- turn.each, Invert, Reads, Writes. -/
/- Invert, Reads, Writes; alike. -/
import Derived.Test.YtkmnacchiagipaaDoorMade
import Derived.Test.YtkmnacchiagipaaDoorCheck
import Derived.Test.YtkmnacchiagipaaDoorBuild
import Derived.Deep.RegionLaw
namespace Go.Proofs.YtkmnacchiagipaaDoor
open Go.RowKit

def invA (a : ArcL) : ArcL := ⟨a.out, a.inn, a.wt, a.to⟩
def readA (a : ArcL) : ArcL := ⟨a.inn, a.inn, a.wt, a.to⟩
def writeA (a : ArcL) : ArcL := ⟨a.out, a.out, a.wt, a.to⟩
abbrev arcV (a : ArcL) : Value := .agg #[.int .i64 a.inn, .int .i64 a.out, .int .i64 a.wt, .int .i64 a.to]

def eachM (F : ArcL → ArcL) (m : MachL) : MachL := ⟨m.start, m.states.map fun s => ⟨s.final, s.arcs.map F⟩⟩

theorem map_snoc {α β : Type} (f : α → β) (l : List α) (k : Nat) (h : k < l.length) : (l.take (k + 1)).map f = (l.take k).map f ++ [f l[k]] := by
  rw [List.take_succ_eq_append_getElem h, List.map_append]; rfl

end Go.Proofs.YtkmnacchiagipaaDoor

namespace Go.Proofs.YtkmnacchiagipaaDoor
open Go.RowKit

theorem eachM_valid {F : ArcL → ArcL} (hF : ∀ (n : Int) a, ValidArc n a → ValidArc n (F a)) {m : MachL} (h : Valid m) : Valid (eachM F m) := by
  have hl : (eachM F m).states.length = m.states.length := by simp [eachM]
  refine ⟨by rw [hl]; exact h.size, ?_, h.s0, by rw [hl]; exact h.s1, ?_⟩
  · have : arcsOf (eachM F m).states = arcsOf m.states := by
      unfold arcsOf eachM; simp only [List.map_map]; congr 1; apply List.map_congr_left; intro s _; simp
    rw [this]; exact h.arcs
  · intro s hs
    rw [hl]
    unfold eachM at hs
    obtain ⟨s0, h0, rfl⟩ := List.mem_map.1 hs
    refine ⟨(h.st s0 h0).1, fun a ha => ?_⟩
    obtain ⟨a0, ha0, rfl⟩ := List.mem_map.1 ha
    exact hF _ _ ((h.st s0 h0).2 a0 ha0)

end Go.Proofs.YtkmnacchiagipaaDoor
