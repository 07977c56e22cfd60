/-
  No cell of these rows narrows 'for every input' (looked for: loops, veiled, ifaces, maps, wideKeys, modest, calm, conditions, laid).
  DERIVED. THE GIVEN ROWS OF THIS SEAT. 5 by the template 'for every input the law returns true; each argument reads behind the call as it read before'; 0 by the template 'total and deterministic' (their statements: YtlfjccgbngnjhaaTotals.lean).
  GIVEN WITH THE SEED: the statements are not yours to turn. If you find one false, say at which input.
  Laid BY PROGRAM, IN A SANDBOX (cutbox-rows.mjs): the forced cells as the released guide's own fill.sh prints them over the translation 4d3e51c233e7efe8… (all of the seat's roots in one cut). By AI agents, Wed Nov 11 2026. No macro, syntax, notation, axiom, sorry.
-/
import Derived.Test.YtlfjccgbngnjhaaChecked
import GoSem.Claim
import GoSem.ClaimJoined
import GoSem.ClaimMapViews
import Derived.JoinedTies
import Derived.KernelRfl
namespace Go.Proofs.Ytlfjccgbngnjhaa
/- THE CELL 'sum', in the pinned program and in every row, IS THE sha256 OF THE DUMP (.gsa) THAT YtlfjccgbngnjhaaProg.lean LOADS. Nothing in Lean hashes anything: it is a label: what it is worth is what the hold of that sum in a sandbox is worth. -/
noncomputable def Try.pinned : Pinned := { name := "ytlfjccgbngnjhaa", sum := "4d3e51c233e7efe8fc63c52c1d4204f72af0dda664652ce2205d98652e16b0cc", checked := Try.checked }
namespace Rows
def none {H : Type} : Left H := { results := [], args := [] }

/-- 'tropicakeep.SortedKeeps': WHATEVER THE INPUT: true; the input reads as it did. -/
def sortedKeepsSpec : ChangeSpec := { name := "sortedKeeps", fn := fun _ => fun
  | [d] => { results := [.lit (.bool true)], args := [d] }
  | _ => none }
def sortedKeepsRow : OpenClaim := { program := "ytlfjccgbngnjhaa", sum := "4d3e51c233e7efe8fc63c52c1d4204f72af0dda664652ce2205d98652e16b0cc", func := "tropica/tropicakeep.SortedKeeps", spec := "sortedKeeps", unfollowed := true, recurses := true, plainKeys := false, apart := false }
def SortedKeepsSaid : Prop := sortedKeepsRow.holds Try.pinned (OpenSpec.ofChange sortedKeepsSpec)

/-- ITS FALSE NEIGHBOUR: 'it returns false'. Refute it at one input. -/
def sortedKeepsWrong : ChangeSpec := { name := "sortedKeeps", fn := fun _ => fun
  | [d] => { results := [.lit (.bool false)], args := [d] }
  | _ => none }
def SortedKeepsWrongFalsely : Prop := sortedKeepsRow.holds Try.pinned (OpenSpec.ofChange sortedKeepsWrong)

/-- 'tropicakeep.MergedLeast': WHATEVER THE INPUT: true; the input reads as it did. -/
def mergedLeastSpec : ChangeSpec := { name := "mergedLeast", fn := fun _ => fun
  | [d] => { results := [.lit (.bool true)], args := [d] }
  | _ => none }
def mergedLeastRow : OpenClaim := { program := "ytlfjccgbngnjhaa", sum := "4d3e51c233e7efe8fc63c52c1d4204f72af0dda664652ce2205d98652e16b0cc", func := "tropica/tropicakeep.MergedLeast", spec := "mergedLeast", unfollowed := true, recurses := true, plainKeys := false, apart := false }
def MergedLeastSaid : Prop := mergedLeastRow.holds Try.pinned (OpenSpec.ofChange mergedLeastSpec)

/-- ITS FALSE NEIGHBOUR: 'it returns false'. Refute it at one input. -/
def mergedLeastWrong : ChangeSpec := { name := "mergedLeast", fn := fun _ => fun
  | [d] => { results := [.lit (.bool false)], args := [d] }
  | _ => none }
def MergedLeastWrongFalsely : Prop := mergedLeastRow.holds Try.pinned (OpenSpec.ofChange mergedLeastWrong)

/-- 'tropicakeep.WeighArranged': WHATEVER THE INPUT: true; the input reads as it did. -/
def weighArrangedSpec : ChangeSpec := { name := "weighArranged", fn := fun _ => fun
  | [d1, d2, d3] => { results := [.lit (.bool true)], args := [d1, d2, d3] }
  | _ => none }
def weighArrangedRow : OpenClaim := { program := "ytlfjccgbngnjhaa", sum := "4d3e51c233e7efe8fc63c52c1d4204f72af0dda664652ce2205d98652e16b0cc", func := "tropica/tropicakeep.WeighArranged", spec := "weighArranged", unfollowed := true, recurses := true, plainKeys := false, apart := false }
def WeighArrangedSaid : Prop := weighArrangedRow.holds Try.pinned (OpenSpec.ofChange weighArrangedSpec)

/-- ITS FALSE NEIGHBOUR: 'it returns false'. Refute it at one input. -/
def weighArrangedWrong : ChangeSpec := { name := "weighArranged", fn := fun _ => fun
  | [d1, d2, d3] => { results := [.lit (.bool false)], args := [d1, d2, d3] }
  | _ => none }
def WeighArrangedWrongFalsely : Prop := weighArrangedRow.holds Try.pinned (OpenSpec.ofChange weighArrangedWrong)

/-- 'tropicakeep.RemoveAgain': WHATEVER THE INPUT: true; the input reads as it did. -/
def removeAgainSpec : ChangeSpec := { name := "removeAgain", fn := fun _ => fun
  | [d] => { results := [.lit (.bool true)], args := [d] }
  | _ => none }
def removeAgainRow : OpenClaim := { program := "ytlfjccgbngnjhaa", sum := "4d3e51c233e7efe8fc63c52c1d4204f72af0dda664652ce2205d98652e16b0cc", func := "tropica/tropicakeep.RemoveAgain", spec := "removeAgain", unfollowed := true, recurses := true, plainKeys := false, apart := false }
def RemoveAgainSaid : Prop := removeAgainRow.holds Try.pinned (OpenSpec.ofChange removeAgainSpec)

/-- ITS FALSE NEIGHBOUR: 'it returns false'. Refute it at one input. -/
def removeAgainWrong : ChangeSpec := { name := "removeAgain", fn := fun _ => fun
  | [d] => { results := [.lit (.bool false)], args := [d] }
  | _ => none }
def RemoveAgainWrongFalsely : Prop := removeAgainRow.holds Try.pinned (OpenSpec.ofChange removeAgainWrong)

/-- 'tropicakeep.RemoveKeeps': WHATEVER THE INPUT: true; the input reads as it did. -/
def removeKeepsSpec : ChangeSpec := { name := "removeKeeps", fn := fun _ => fun
  | [d1, d2, d3] => { results := [.lit (.bool true)], args := [d1, d2, d3] }
  | _ => none }
def removeKeepsRow : OpenClaim := { program := "ytlfjccgbngnjhaa", sum := "4d3e51c233e7efe8fc63c52c1d4204f72af0dda664652ce2205d98652e16b0cc", func := "tropica/tropicakeep.RemoveKeeps", spec := "removeKeeps", unfollowed := true, recurses := true, plainKeys := false, apart := false }
def RemoveKeepsSaid : Prop := removeKeepsRow.holds Try.pinned (OpenSpec.ofChange removeKeepsSpec)

/-- ITS FALSE NEIGHBOUR: 'it returns false'. Refute it at one input. -/
def removeKeepsWrong : ChangeSpec := { name := "removeKeeps", fn := fun _ => fun
  | [d1, d2, d3] => { results := [.lit (.bool false)], args := [d1, d2, d3] }
  | _ => none }
def RemoveKeepsWrongFalsely : Prop := removeKeepsRow.holds Try.pinned (OpenSpec.ofChange removeKeepsWrong)

/- THE SECOND FORM. 'bulk': how many values and letters a reading holds, each counted each time it is reached (what is shared counts as often as it is met; a slice's spare places count too). A statement '..UptoSaid' is the law's where the arguments, and the package variables that the reading takes, are together of bulk at most 1048576: NARROWER than '..Said'. Prove '..Said' where nothing that the law and all that it calls make is longer than what came in: it says more and counts as full. Else prove '..UptoSaid'. A law counts once. -/
mutual
def uptoBulk {H : Type} : DataW H → Nat
  | .lit (.string bytes) => bytes.length + 1
  | .lit _ => 1
  | .nil => 1
  | .ptr d => uptoBulk d + 1
  | .slice elems spare => uptoBulkAll elems + uptoBulkAll spare + 1
  | .agg parts => uptoBulkAll parts + 1
  | .iface _ d => uptoBulk d + 1
  | .map entries => uptoBulkEntries entries + 1
  | .held _ => 1
def uptoBulkAll {H : Type} : List (DataW H) → Nat
  | [] => 0
  | d :: r => uptoBulk d + uptoBulkAll r
def uptoBulkEntries {H : Type} : List (Lit × DataW H) → Nat
  | [] => 0
  | x :: r => uptoBulkEntry x + uptoBulkEntries r
def uptoBulkEntry {H : Type} : Lit × DataW H → Nat
  | (.string bytes, d) => bytes.length + uptoBulk d + 1
  | (_, d) => uptoBulk d + 1
 end
def uptoSmall : (H : Type) → List (DataW H) → Bool := fun _ ds => decide (uptoBulkAll ds ≤ 1048576)
def OpenSpec.upto (s : _root_.Go.ChangeSpec) : _root_.Go.OpenSpec := { _root_.Go.OpenSpec.ofChange s with cond := some uptoSmall }

/-- 'tropicakeep.SortedKeeps', WHERE WHAT IT READS IS OF BULK AT MOST 1048576: true; the input reads as it did. -/
def sortedKeepsUptoRow : OpenClaim := { program := "ytlfjccgbngnjhaa", sum := "4d3e51c233e7efe8fc63c52c1d4204f72af0dda664652ce2205d98652e16b0cc", func := "tropica/tropicakeep.SortedKeeps", spec := "sortedKeeps", unfollowed := true, recurses := true, plainKeys := false, apart := false, narrowed := true }
def SortedKeepsUptoSaid : Prop := sortedKeepsUptoRow.holds Try.pinned (OpenSpec.upto sortedKeepsSpec)

/-- 'tropicakeep.MergedLeast', WHERE WHAT IT READS IS OF BULK AT MOST 1048576: true; the input reads as it did. -/
def mergedLeastUptoRow : OpenClaim := { program := "ytlfjccgbngnjhaa", sum := "4d3e51c233e7efe8fc63c52c1d4204f72af0dda664652ce2205d98652e16b0cc", func := "tropica/tropicakeep.MergedLeast", spec := "mergedLeast", unfollowed := true, recurses := true, plainKeys := false, apart := false, narrowed := true }
def MergedLeastUptoSaid : Prop := mergedLeastUptoRow.holds Try.pinned (OpenSpec.upto mergedLeastSpec)

/-- 'tropicakeep.WeighArranged', WHERE WHAT IT READS IS OF BULK AT MOST 1048576: true; the input reads as it did. -/
def weighArrangedUptoRow : OpenClaim := { program := "ytlfjccgbngnjhaa", sum := "4d3e51c233e7efe8fc63c52c1d4204f72af0dda664652ce2205d98652e16b0cc", func := "tropica/tropicakeep.WeighArranged", spec := "weighArranged", unfollowed := true, recurses := true, plainKeys := false, apart := false, narrowed := true }
def WeighArrangedUptoSaid : Prop := weighArrangedUptoRow.holds Try.pinned (OpenSpec.upto weighArrangedSpec)

/-- 'tropicakeep.RemoveAgain', WHERE WHAT IT READS IS OF BULK AT MOST 1048576: true; the input reads as it did. -/
def removeAgainUptoRow : OpenClaim := { program := "ytlfjccgbngnjhaa", sum := "4d3e51c233e7efe8fc63c52c1d4204f72af0dda664652ce2205d98652e16b0cc", func := "tropica/tropicakeep.RemoveAgain", spec := "removeAgain", unfollowed := true, recurses := true, plainKeys := false, apart := false, narrowed := true }
def RemoveAgainUptoSaid : Prop := removeAgainUptoRow.holds Try.pinned (OpenSpec.upto removeAgainSpec)

/-- 'tropicakeep.RemoveKeeps', WHERE WHAT IT READS IS OF BULK AT MOST 1048576: true; the input reads as it did. -/
def removeKeepsUptoRow : OpenClaim := { program := "ytlfjccgbngnjhaa", sum := "4d3e51c233e7efe8fc63c52c1d4204f72af0dda664652ce2205d98652e16b0cc", func := "tropica/tropicakeep.RemoveKeeps", spec := "removeKeeps", unfollowed := true, recurses := true, plainKeys := false, apart := false, narrowed := true }
def RemoveKeepsUptoSaid : Prop := removeKeepsUptoRow.holds Try.pinned (OpenSpec.upto removeKeepsSpec)

end Rows
end Go.Proofs.Ytlfjccgbngnjhaa
