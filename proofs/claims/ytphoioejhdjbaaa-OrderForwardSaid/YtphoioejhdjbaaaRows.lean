/-
  No cell of these rows narrows 'for every input' (looked for: loops, veiled, ifaces, maps, wideKeys, modest, calm, conditions, laid).
  DERIVED. THE GIVEN ROWS OF THIS SEAT. 12 by the template 'for every input the law returns true; each argument reads behind the call as it read before'; 0 by the template 'total and deterministic' (their statements: YtphoioejhdjbaaaTotals.lean).
  GIVEN WITH THE SEED: the statements are not yours to turn. If you find one false, say at which input.
  Laid BY PROGRAM, IN A SANDBOX (cutbox-rows.mjs): the forced cells as the released guide's own fill.sh prints them over the translation 4150bec057604c05… (all of the seat's roots in one cut). By AI agents, Wed Nov 11 2026. No macro, syntax, notation, axiom, sorry.
-/
import Derived.Test.YtphoioejhdjbaaaChecked
import GoSem.Claim
import GoSem.ClaimJoined
import GoSem.ClaimMapViews
import Derived.JoinedTies
import Derived.KernelRfl
namespace Go.Proofs.Ytphoioejhdjbaaa
/- THE CELL 'sum', in the pinned program and in every row, IS THE sha256 OF THE DUMP (.gsa) THAT YtphoioejhdjbaaaProg.lean LOADS. Nothing in Lean hashes anything: it is a label: what it is worth is what the hold of that sum in a sandbox is worth. -/
noncomputable def Try.pinned : Pinned := { name := "ytphoioejhdjbaaa", sum := "4150bec057604c056cfb138a550c8f339c1e652ef801ded9ed671d2d39a0d5ff", checked := Try.checked }
namespace Rows
def none {H : Type} : Left H := { results := [], args := [] }

/-- 'tropicakeep.OrderForward': WHATEVER THE INPUT: true; the input reads as it did. -/
def orderForwardSpec : ChangeSpec := { name := "orderForward", fn := fun _ => fun
  | [d1, d2] => { results := [.lit (.bool true)], args := [d1, d2] }
  | _ => none }
def orderForwardRow : OpenClaim := { program := "ytphoioejhdjbaaa", sum := "4150bec057604c056cfb138a550c8f339c1e652ef801ded9ed671d2d39a0d5ff", func := "tropica/tropicakeep.OrderForward", spec := "orderForward", unfollowed := true, recurses := true, plainKeys := false, apart := false }
def OrderForwardSaid : Prop := orderForwardRow.holds Try.pinned (OpenSpec.ofChange orderForwardSpec)

/-- ITS FALSE NEIGHBOUR: 'it returns false'. Refute it at one input. -/
def orderForwardWrong : ChangeSpec := { name := "orderForward", fn := fun _ => fun
  | [d1, d2] => { results := [.lit (.bool false)], args := [d1, d2] }
  | _ => none }
def OrderForwardWrongFalsely : Prop := orderForwardRow.holds Try.pinned (OpenSpec.ofChange orderForwardWrong)

/-- 'tropicakeep.ComposeExpanded': WHATEVER THE INPUT: true; the input reads as it did. -/
def composeExpandedSpec : ChangeSpec := { name := "composeExpanded", fn := fun _ => fun
  | [d1, d2, d3] => { results := [.lit (.bool true)], args := [d1, d2, d3] }
  | _ => none }
def composeExpandedRow : OpenClaim := { program := "ytphoioejhdjbaaa", sum := "4150bec057604c056cfb138a550c8f339c1e652ef801ded9ed671d2d39a0d5ff", func := "tropica/tropicakeep.ComposeExpanded", spec := "composeExpanded", unfollowed := true, recurses := true, plainKeys := false, apart := false }
def ComposeExpandedSaid : Prop := composeExpandedRow.holds Try.pinned (OpenSpec.ofChange composeExpandedSpec)

/-- ITS FALSE NEIGHBOUR: 'it returns false'. Refute it at one input. -/
def composeExpandedWrong : ChangeSpec := { name := "composeExpanded", fn := fun _ => fun
  | [d1, d2, d3] => { results := [.lit (.bool false)], args := [d1, d2, d3] }
  | _ => none }
def ComposeExpandedWrongFalsely : Prop := composeExpandedRow.holds Try.pinned (OpenSpec.ofChange composeExpandedWrong)

/-- 'tropicakeep.ReversePaths': WHATEVER THE INPUT: true; the input reads as it did. -/
def reversePathsSpec : ChangeSpec := { name := "reversePaths", fn := fun _ => fun
  | [d] => { results := [.lit (.bool true)], args := [d] }
  | _ => none }
def reversePathsRow : OpenClaim := { program := "ytphoioejhdjbaaa", sum := "4150bec057604c056cfb138a550c8f339c1e652ef801ded9ed671d2d39a0d5ff", func := "tropica/tropicakeep.ReversePaths", spec := "reversePaths", unfollowed := true, recurses := true, plainKeys := false, apart := false }
def ReversePathsSaid : Prop := reversePathsRow.holds Try.pinned (OpenSpec.ofChange reversePathsSpec)

/-- ITS FALSE NEIGHBOUR: 'it returns false'. Refute it at one input. -/
def reversePathsWrong : ChangeSpec := { name := "reversePaths", fn := fun _ => fun
  | [d] => { results := [.lit (.bool false)], args := [d] }
  | _ => none }
def ReversePathsWrongFalsely : Prop := reversePathsRow.holds Try.pinned (OpenSpec.ofChange reversePathsWrong)

/-- 'tropicakeep.LongestStands': WHATEVER THE INPUT: true; the input reads as it did. -/
def longestStandsSpec : ChangeSpec := { name := "longestStands", fn := fun _ => fun
  | [d] => { results := [.lit (.bool true)], args := [d] }
  | _ => none }
def longestStandsRow : OpenClaim := { program := "ytphoioejhdjbaaa", sum := "4150bec057604c056cfb138a550c8f339c1e652ef801ded9ed671d2d39a0d5ff", func := "tropica/tropicakeep.LongestStands", spec := "longestStands", unfollowed := true, recurses := true, plainKeys := false, apart := false }
def LongestStandsSaid : Prop := longestStandsRow.holds Try.pinned (OpenSpec.ofChange longestStandsSpec)

/-- ITS FALSE NEIGHBOUR: 'it returns false'. Refute it at one input. -/
def longestStandsWrong : ChangeSpec := { name := "longestStands", fn := fun _ => fun
  | [d] => { results := [.lit (.bool false)], args := [d] }
  | _ => none }
def LongestStandsWrongFalsely : Prop := longestStandsRow.holds Try.pinned (OpenSpec.ofChange longestStandsWrong)

/-- 'tropicakeep.WeighCross': WHATEVER THE INPUT: true; the input reads as it did. -/
def weighCrossSpec : ChangeSpec := { name := "weighCross", fn := fun _ => fun
  | [d1, d2, d3, d4] => { results := [.lit (.bool true)], args := [d1, d2, d3, d4] }
  | _ => none }
def weighCrossRow : OpenClaim := { program := "ytphoioejhdjbaaa", sum := "4150bec057604c056cfb138a550c8f339c1e652ef801ded9ed671d2d39a0d5ff", func := "tropica/tropicakeep.WeighCross", spec := "weighCross", unfollowed := true, recurses := true, plainKeys := false, apart := false }
def WeighCrossSaid : Prop := weighCrossRow.holds Try.pinned (OpenSpec.ofChange weighCrossSpec)

/-- ITS FALSE NEIGHBOUR: 'it returns false'. Refute it at one input. -/
def weighCrossWrong : ChangeSpec := { name := "weighCross", fn := fun _ => fun
  | [d1, d2, d3, d4] => { results := [.lit (.bool false)], args := [d1, d2, d3, d4] }
  | _ => none }
def WeighCrossWrongFalsely : Prop := weighCrossRow.holds Try.pinned (OpenSpec.ofChange weighCrossWrong)

/-- 'tropicakeep.WeighInvert': WHATEVER THE INPUT: true; the input reads as it did. -/
def weighInvertSpec : ChangeSpec := { name := "weighInvert", fn := fun _ => fun
  | [d1, d2, d3] => { results := [.lit (.bool true)], args := [d1, d2, d3] }
  | _ => none }
def weighInvertRow : OpenClaim := { program := "ytphoioejhdjbaaa", sum := "4150bec057604c056cfb138a550c8f339c1e652ef801ded9ed671d2d39a0d5ff", func := "tropica/tropicakeep.WeighInvert", spec := "weighInvert", unfollowed := true, recurses := true, plainKeys := false, apart := false }
def WeighInvertSaid : Prop := weighInvertRow.holds Try.pinned (OpenSpec.ofChange weighInvertSpec)

/-- ITS FALSE NEIGHBOUR: 'it returns false'. Refute it at one input. -/
def weighInvertWrong : ChangeSpec := { name := "weighInvert", fn := fun _ => fun
  | [d1, d2, d3] => { results := [.lit (.bool false)], args := [d1, d2, d3] }
  | _ => none }
def WeighInvertWrongFalsely : Prop := weighInvertRow.holds Try.pinned (OpenSpec.ofChange weighInvertWrong)

/-- 'tropicakeep.WeighReverse': WHATEVER THE INPUT: true; the input reads as it did. -/
def weighReverseSpec : ChangeSpec := { name := "weighReverse", fn := fun _ => fun
  | [d1, d2, d3] => { results := [.lit (.bool true)], args := [d1, d2, d3] }
  | _ => none }
def weighReverseRow : OpenClaim := { program := "ytphoioejhdjbaaa", sum := "4150bec057604c056cfb138a550c8f339c1e652ef801ded9ed671d2d39a0d5ff", func := "tropica/tropicakeep.WeighReverse", spec := "weighReverse", unfollowed := true, recurses := true, plainKeys := false, apart := false }
def WeighReverseSaid : Prop := weighReverseRow.holds Try.pinned (OpenSpec.ofChange weighReverseSpec)

/-- ITS FALSE NEIGHBOUR: 'it returns false'. Refute it at one input. -/
def weighReverseWrong : ChangeSpec := { name := "weighReverse", fn := fun _ => fun
  | [d1, d2, d3] => { results := [.lit (.bool false)], args := [d1, d2, d3] }
  | _ => none }
def WeighReverseWrongFalsely : Prop := weighReverseRow.holds Try.pinned (OpenSpec.ofChange weighReverseWrong)

/-- 'tropicakeep.WeighProject': WHATEVER THE INPUT: true; the input reads as it did. -/
def weighProjectSpec : ChangeSpec := { name := "weighProject", fn := fun _ => fun
  | [d1, d2, d3] => { results := [.lit (.bool true)], args := [d1, d2, d3] }
  | _ => none }
def weighProjectRow : OpenClaim := { program := "ytphoioejhdjbaaa", sum := "4150bec057604c056cfb138a550c8f339c1e652ef801ded9ed671d2d39a0d5ff", func := "tropica/tropicakeep.WeighProject", spec := "weighProject", unfollowed := true, recurses := true, plainKeys := false, apart := false }
def WeighProjectSaid : Prop := weighProjectRow.holds Try.pinned (OpenSpec.ofChange weighProjectSpec)

/-- ITS FALSE NEIGHBOUR: 'it returns false'. Refute it at one input. -/
def weighProjectWrong : ChangeSpec := { name := "weighProject", fn := fun _ => fun
  | [d1, d2, d3] => { results := [.lit (.bool false)], args := [d1, d2, d3] }
  | _ => none }
def WeighProjectWrongFalsely : Prop := weighProjectRow.holds Try.pinned (OpenSpec.ofChange weighProjectWrong)

/-- 'tropicakeep.WeighUnion': WHATEVER THE INPUT: true; the input reads as it did. -/
def weighUnionSpec : ChangeSpec := { name := "weighUnion", fn := fun _ => fun
  | [d1, d2, d3, d4] => { results := [.lit (.bool true)], args := [d1, d2, d3, d4] }
  | _ => none }
def weighUnionRow : OpenClaim := { program := "ytphoioejhdjbaaa", sum := "4150bec057604c056cfb138a550c8f339c1e652ef801ded9ed671d2d39a0d5ff", func := "tropica/tropicakeep.WeighUnion", spec := "weighUnion", unfollowed := true, recurses := true, plainKeys := false, apart := false }
def WeighUnionSaid : Prop := weighUnionRow.holds Try.pinned (OpenSpec.ofChange weighUnionSpec)

/-- ITS FALSE NEIGHBOUR: 'it returns false'. Refute it at one input. -/
def weighUnionWrong : ChangeSpec := { name := "weighUnion", fn := fun _ => fun
  | [d1, d2, d3, d4] => { results := [.lit (.bool false)], args := [d1, d2, d3, d4] }
  | _ => none }
def WeighUnionWrongFalsely : Prop := weighUnionRow.holds Try.pinned (OpenSpec.ofChange weighUnionWrong)

/-- 'tropicakeep.WeighStar': WHATEVER THE INPUT: true; the input reads as it did. -/
def weighStarSpec : ChangeSpec := { name := "weighStar", fn := fun _ => fun
  | [d1, d2, d3] => { results := [.lit (.bool true)], args := [d1, d2, d3] }
  | _ => none }
def weighStarRow : OpenClaim := { program := "ytphoioejhdjbaaa", sum := "4150bec057604c056cfb138a550c8f339c1e652ef801ded9ed671d2d39a0d5ff", func := "tropica/tropicakeep.WeighStar", spec := "weighStar", unfollowed := true, recurses := true, plainKeys := false, apart := false }
def WeighStarSaid : Prop := weighStarRow.holds Try.pinned (OpenSpec.ofChange weighStarSpec)

/-- ITS FALSE NEIGHBOUR: 'it returns false'. Refute it at one input. -/
def weighStarWrong : ChangeSpec := { name := "weighStar", fn := fun _ => fun
  | [d1, d2, d3] => { results := [.lit (.bool false)], args := [d1, d2, d3] }
  | _ => none }
def WeighStarWrongFalsely : Prop := weighStarRow.holds Try.pinned (OpenSpec.ofChange weighStarWrong)

/-- 'tropicakeep.WeighConcat': WHATEVER THE INPUT: true; the input reads as it did. -/
def weighConcatSpec : ChangeSpec := { name := "weighConcat", fn := fun _ => fun
  | [d1, d2, d3, d4] => { results := [.lit (.bool true)], args := [d1, d2, d3, d4] }
  | _ => none }
def weighConcatRow : OpenClaim := { program := "ytphoioejhdjbaaa", sum := "4150bec057604c056cfb138a550c8f339c1e652ef801ded9ed671d2d39a0d5ff", func := "tropica/tropicakeep.WeighConcat", spec := "weighConcat", unfollowed := true, recurses := true, plainKeys := false, apart := false }
def WeighConcatSaid : Prop := weighConcatRow.holds Try.pinned (OpenSpec.ofChange weighConcatSpec)

/-- ITS FALSE NEIGHBOUR: 'it returns false'. Refute it at one input. -/
def weighConcatWrong : ChangeSpec := { name := "weighConcat", fn := fun _ => fun
  | [d1, d2, d3, d4] => { results := [.lit (.bool false)], args := [d1, d2, d3, d4] }
  | _ => none }
def WeighConcatWrongFalsely : Prop := weighConcatRow.holds Try.pinned (OpenSpec.ofChange weighConcatWrong)

/-- 'tropicakeep.WeighRelabel': WHATEVER THE INPUT: true; the input reads as it did. -/
def weighRelabelSpec : ChangeSpec := { name := "weighRelabel", fn := fun _ => fun
  | [d1, d2, d3] => { results := [.lit (.bool true)], args := [d1, d2, d3] }
  | _ => none }
def weighRelabelRow : OpenClaim := { program := "ytphoioejhdjbaaa", sum := "4150bec057604c056cfb138a550c8f339c1e652ef801ded9ed671d2d39a0d5ff", func := "tropica/tropicakeep.WeighRelabel", spec := "weighRelabel", unfollowed := true, recurses := true, plainKeys := false, apart := false }
def WeighRelabelSaid : Prop := weighRelabelRow.holds Try.pinned (OpenSpec.ofChange weighRelabelSpec)

/-- ITS FALSE NEIGHBOUR: 'it returns false'. Refute it at one input. -/
def weighRelabelWrong : ChangeSpec := { name := "weighRelabel", fn := fun _ => fun
  | [d1, d2, d3] => { results := [.lit (.bool false)], args := [d1, d2, d3] }
  | _ => none }
def WeighRelabelWrongFalsely : Prop := weighRelabelRow.holds Try.pinned (OpenSpec.ofChange weighRelabelWrong)

/- THE SECOND FORM. 'bulk': how many values and letters a reading holds, each counted each time it is reached (what is shared counts as often as it is met; a slice's spare places count too). A statement '..UptoSaid' is the law's where the arguments, and the package variables that the reading takes, are together of bulk at most 1048576: NARROWER than '..Said'. Prove '..Said' where nothing that the law and all that it calls make is longer than what came in: it says more and counts as full. Else prove '..UptoSaid'. A law counts once. -/
mutual
def uptoBulk {H : Type} : DataW H → Nat
  | .lit (.string bytes) => bytes.length + 1
  | .lit _ => 1
  | .nil => 1
  | .ptr d => uptoBulk d + 1
  | .slice elems spare => uptoBulkAll elems + uptoBulkAll spare + 1
  | .agg parts => uptoBulkAll parts + 1
  | .iface _ d => uptoBulk d + 1
  | .map entries => uptoBulkEntries entries + 1
  | .held _ => 1
def uptoBulkAll {H : Type} : List (DataW H) → Nat
  | [] => 0
  | d :: r => uptoBulk d + uptoBulkAll r
def uptoBulkEntries {H : Type} : List (Lit × DataW H) → Nat
  | [] => 0
  | x :: r => uptoBulkEntry x + uptoBulkEntries r
def uptoBulkEntry {H : Type} : Lit × DataW H → Nat
  | (.string bytes, d) => bytes.length + uptoBulk d + 1
  | (_, d) => uptoBulk d + 1
 end
def uptoSmall : (H : Type) → List (DataW H) → Bool := fun _ ds => decide (uptoBulkAll ds ≤ 1048576)
def OpenSpec.upto (s : _root_.Go.ChangeSpec) : _root_.Go.OpenSpec := { _root_.Go.OpenSpec.ofChange s with cond := some uptoSmall }

/-- 'tropicakeep.OrderForward', WHERE WHAT IT READS IS OF BULK AT MOST 1048576: true; the input reads as it did. -/
def orderForwardUptoRow : OpenClaim := { program := "ytphoioejhdjbaaa", sum := "4150bec057604c056cfb138a550c8f339c1e652ef801ded9ed671d2d39a0d5ff", func := "tropica/tropicakeep.OrderForward", spec := "orderForward", unfollowed := true, recurses := true, plainKeys := false, apart := false, narrowed := true }
def OrderForwardUptoSaid : Prop := orderForwardUptoRow.holds Try.pinned (OpenSpec.upto orderForwardSpec)

/-- 'tropicakeep.ComposeExpanded', WHERE WHAT IT READS IS OF BULK AT MOST 1048576: true; the input reads as it did. -/
def composeExpandedUptoRow : OpenClaim := { program := "ytphoioejhdjbaaa", sum := "4150bec057604c056cfb138a550c8f339c1e652ef801ded9ed671d2d39a0d5ff", func := "tropica/tropicakeep.ComposeExpanded", spec := "composeExpanded", unfollowed := true, recurses := true, plainKeys := false, apart := false, narrowed := true }
def ComposeExpandedUptoSaid : Prop := composeExpandedUptoRow.holds Try.pinned (OpenSpec.upto composeExpandedSpec)

/-- 'tropicakeep.ReversePaths', WHERE WHAT IT READS IS OF BULK AT MOST 1048576: true; the input reads as it did. -/
def reversePathsUptoRow : OpenClaim := { program := "ytphoioejhdjbaaa", sum := "4150bec057604c056cfb138a550c8f339c1e652ef801ded9ed671d2d39a0d5ff", func := "tropica/tropicakeep.ReversePaths", spec := "reversePaths", unfollowed := true, recurses := true, plainKeys := false, apart := false, narrowed := true }
def ReversePathsUptoSaid : Prop := reversePathsUptoRow.holds Try.pinned (OpenSpec.upto reversePathsSpec)

/-- 'tropicakeep.LongestStands', WHERE WHAT IT READS IS OF BULK AT MOST 1048576: true; the input reads as it did. -/
def longestStandsUptoRow : OpenClaim := { program := "ytphoioejhdjbaaa", sum := "4150bec057604c056cfb138a550c8f339c1e652ef801ded9ed671d2d39a0d5ff", func := "tropica/tropicakeep.LongestStands", spec := "longestStands", unfollowed := true, recurses := true, plainKeys := false, apart := false, narrowed := true }
def LongestStandsUptoSaid : Prop := longestStandsUptoRow.holds Try.pinned (OpenSpec.upto longestStandsSpec)

/-- 'tropicakeep.WeighCross', WHERE WHAT IT READS IS OF BULK AT MOST 1048576: true; the input reads as it did. -/
def weighCrossUptoRow : OpenClaim := { program := "ytphoioejhdjbaaa", sum := "4150bec057604c056cfb138a550c8f339c1e652ef801ded9ed671d2d39a0d5ff", func := "tropica/tropicakeep.WeighCross", spec := "weighCross", unfollowed := true, recurses := true, plainKeys := false, apart := false, narrowed := true }
def WeighCrossUptoSaid : Prop := weighCrossUptoRow.holds Try.pinned (OpenSpec.upto weighCrossSpec)

/-- 'tropicakeep.WeighInvert', WHERE WHAT IT READS IS OF BULK AT MOST 1048576: true; the input reads as it did. -/
def weighInvertUptoRow : OpenClaim := { program := "ytphoioejhdjbaaa", sum := "4150bec057604c056cfb138a550c8f339c1e652ef801ded9ed671d2d39a0d5ff", func := "tropica/tropicakeep.WeighInvert", spec := "weighInvert", unfollowed := true, recurses := true, plainKeys := false, apart := false, narrowed := true }
def WeighInvertUptoSaid : Prop := weighInvertUptoRow.holds Try.pinned (OpenSpec.upto weighInvertSpec)

/-- 'tropicakeep.WeighReverse', WHERE WHAT IT READS IS OF BULK AT MOST 1048576: true; the input reads as it did. -/
def weighReverseUptoRow : OpenClaim := { program := "ytphoioejhdjbaaa", sum := "4150bec057604c056cfb138a550c8f339c1e652ef801ded9ed671d2d39a0d5ff", func := "tropica/tropicakeep.WeighReverse", spec := "weighReverse", unfollowed := true, recurses := true, plainKeys := false, apart := false, narrowed := true }
def WeighReverseUptoSaid : Prop := weighReverseUptoRow.holds Try.pinned (OpenSpec.upto weighReverseSpec)

/-- 'tropicakeep.WeighProject', WHERE WHAT IT READS IS OF BULK AT MOST 1048576: true; the input reads as it did. -/
def weighProjectUptoRow : OpenClaim := { program := "ytphoioejhdjbaaa", sum := "4150bec057604c056cfb138a550c8f339c1e652ef801ded9ed671d2d39a0d5ff", func := "tropica/tropicakeep.WeighProject", spec := "weighProject", unfollowed := true, recurses := true, plainKeys := false, apart := false, narrowed := true }
def WeighProjectUptoSaid : Prop := weighProjectUptoRow.holds Try.pinned (OpenSpec.upto weighProjectSpec)

/-- 'tropicakeep.WeighUnion', WHERE WHAT IT READS IS OF BULK AT MOST 1048576: true; the input reads as it did. -/
def weighUnionUptoRow : OpenClaim := { program := "ytphoioejhdjbaaa", sum := "4150bec057604c056cfb138a550c8f339c1e652ef801ded9ed671d2d39a0d5ff", func := "tropica/tropicakeep.WeighUnion", spec := "weighUnion", unfollowed := true, recurses := true, plainKeys := false, apart := false, narrowed := true }
def WeighUnionUptoSaid : Prop := weighUnionUptoRow.holds Try.pinned (OpenSpec.upto weighUnionSpec)

/-- 'tropicakeep.WeighStar', WHERE WHAT IT READS IS OF BULK AT MOST 1048576: true; the input reads as it did. -/
def weighStarUptoRow : OpenClaim := { program := "ytphoioejhdjbaaa", sum := "4150bec057604c056cfb138a550c8f339c1e652ef801ded9ed671d2d39a0d5ff", func := "tropica/tropicakeep.WeighStar", spec := "weighStar", unfollowed := true, recurses := true, plainKeys := false, apart := false, narrowed := true }
def WeighStarUptoSaid : Prop := weighStarUptoRow.holds Try.pinned (OpenSpec.upto weighStarSpec)

/-- 'tropicakeep.WeighConcat', WHERE WHAT IT READS IS OF BULK AT MOST 1048576: true; the input reads as it did. -/
def weighConcatUptoRow : OpenClaim := { program := "ytphoioejhdjbaaa", sum := "4150bec057604c056cfb138a550c8f339c1e652ef801ded9ed671d2d39a0d5ff", func := "tropica/tropicakeep.WeighConcat", spec := "weighConcat", unfollowed := true, recurses := true, plainKeys := false, apart := false, narrowed := true }
def WeighConcatUptoSaid : Prop := weighConcatUptoRow.holds Try.pinned (OpenSpec.upto weighConcatSpec)

/-- 'tropicakeep.WeighRelabel', WHERE WHAT IT READS IS OF BULK AT MOST 1048576: true; the input reads as it did. -/
def weighRelabelUptoRow : OpenClaim := { program := "ytphoioejhdjbaaa", sum := "4150bec057604c056cfb138a550c8f339c1e652ef801ded9ed671d2d39a0d5ff", func := "tropica/tropicakeep.WeighRelabel", spec := "weighRelabel", unfollowed := true, recurses := true, plainKeys := false, apart := false, narrowed := true }
def WeighRelabelUptoSaid : Prop := weighRelabelUptoRow.holds Try.pinned (OpenSpec.upto weighRelabelSpec)

end Rows
end Go.Proofs.Ytphoioejhdjbaaa
