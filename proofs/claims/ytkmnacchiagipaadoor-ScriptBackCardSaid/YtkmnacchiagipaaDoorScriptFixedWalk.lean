/- The walk of ScriptFixed. -/
import Derived.Test.YtkmnacchiagipaaDoorScriptReadWalk
namespace Go.Proofs.YtkmnacchiagipaaDoor
open Go.RowKit
theorem scrW_back {W : World} (h : laidMet Tryd.prog Rows.scriptBackRow.laid W) (hs : W.ShapedOpen Tryd.prog) : ScrW W := ⟨formsA_of h.tail, max_of hs⟩
theorem lines_join (s : List UInt8) : (linesL s).flatMap (fun x => x) = s := by
  have h := linesL_join s
  rw [List.flatten_eq_flatMap] at h
  exact h
def txtS (s : StepL) : List UInt8 := match shownS s with | .inr t => t | .inl _ => []
theorem txtS_of {s : StepL} {t : List UInt8} (h : shownS s = .inr t) : txtS s = t := by unfold txtS; rw [h]
theorem flatMap_eq {α β : Type} (l : List α) (f g : α → List β) (h : ∀ x ∈ l, f x = g x) : l.flatMap f = l.flatMap g := by
  induction l with
  | nil => rfl
  | cons a l ih => rw [List.flatMap_cons, List.flatMap_cons, h a (by simp), ih fun x hx => h x (by simp [hx])]
end Go.Proofs.YtkmnacchiagipaaDoor
