/- A slice of bools of the call's own, by its block. -/
import Derived.Test.YtlfjccgbngnjhaaSlices
namespace Go.Proofs.Ytlfjccgbngnjhaa
open Go.RowKit
abbrev boolsA (l : List Bool) : Array Value := (l.map Value.bool).toArray
theorem boolsA_get (l : List Bool) (p : Nat) (h : p < l.length) : (boolsA l)[p]? = some (.bool (l.getD p false)) := by
  simp [h, List.getD_eq_getElem?_getD]
theorem boolsA_set (l : List Bool) (p : Nat) (b : Bool) : (boolsA l).setIfInBounds p (.bool b) = boolsA (l.set p b) := by simp [List.map_set]
theorem madeBoolsA (n : Nat) : madeCells #[Value.bool false] n = boolsA (List.replicate n false) := by unfold boolsA; rw [made_at, List.map_replicate]
theorem eltBoolA : Elt Try.prog 69 4 (.bool false) 1 1 := ⟨Try.underlying69, by kernel_rfl, rfl, by omega⟩
theorem bools_set {l : List Bool} {q : Nat} {b : Bool} (h : q < l.length) (p : Nat) : (l.set q b).getD p false = if p = q then b else l.getD p false := by
  simp only [List.getD_eq_getElem?_getD]
  by_cases e : p = q
  · subst e; simp [h]
  · rw [List.getElem?_set_ne (fun h => e h.symm), if_neg e]
end Go.Proofs.Ytlfjccgbngnjhaa
