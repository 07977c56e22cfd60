/- turn.each, Invert, Reads, Writes. -/
import Derived.Test.YteniblkmokpjjaaMade
import Derived.Test.YteniblkmokpjjaaCheck
import Derived.Test.YteniblkmokpjjaaBuild
import Derived.Deep.RegionLaw
namespace Go.Proofs.Yteniblkmokpjjaa
open Go.RowKit

def invA (a : ArcL) : ArcL := ⟨a.out, a.inn, a.wt, a.to⟩
def readA (a : ArcL) : ArcL := ⟨a.inn, a.inn, a.wt, a.to⟩
def writeA (a : ArcL) : ArcL := ⟨a.out, a.out, a.wt, a.to⟩
abbrev arcV (a : ArcL) : Value := .agg #[.int .i64 a.inn, .int .i64 a.out, .int .i64 a.wt, .int .i64 a.to]

def eachM (F : ArcL → ArcL) (m : MachL) : MachL := ⟨m.start, m.states.map fun s => ⟨s.final, s.arcs.map F⟩⟩

theorem map_snoc {α β : Type} (f : α → β) (l : List α) (k : Nat) (h : k < l.length) : (l.take (k + 1)).map f = (l.take k).map f ++ [f l[k]] := by
  rw [List.take_succ_eq_append_getElem h, List.map_append]; rfl

end Go.Proofs.Yteniblkmokpjjaa
