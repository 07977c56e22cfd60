/-
  No cell of these rows narrows 'for every input' (looked for: loops, veiled, ifaces, maps, wideKeys, modest, calm, conditions, laid).
  DERIVED. THE GIVEN ROWS OF THIS SEAT. 12 by the template 'for every input the law returns true; each argument reads behind the call as it read before'; 0 by the template 'total and deterministic' (their statements: YteniblkmokpjjaaTotals.lean).
  GIVEN WITH THE SEED: the statements are not yours to turn. If you find one false, say at which input.
  Laid BY PROGRAM, IN A SANDBOX (cutbox-rows.mjs): the forced cells as the released guide's own fill.sh prints them over the translation ab2b8bbf0080278e… (all of the seat's roots in one cut). By AI agents, Wed Nov 11 2026. No macro, syntax, notation, axiom, sorry.
-/
import Derived.Test.YteniblkmokpjjaaChecked
import GoSem.Claim
import GoSem.ClaimJoined
import GoSem.ClaimMapViews
import Derived.JoinedTies
import Derived.KernelRfl
namespace Go.Proofs.Yteniblkmokpjjaa
/- THE CELL 'sum', in the pinned program and in every row, IS THE sha256 OF THE DUMP (.gsa) THAT YteniblkmokpjjaaProg.lean LOADS. Nothing in Lean hashes anything: it is a label: what it is worth is what the hold of that sum in a sandbox is worth. -/
noncomputable def Try.pinned : Pinned := { name := "yteniblkmokpjjaa", sum := "ab2b8bbf0080278e454489830f1e9b32633ea79d23323b86d777fb9a5091821e", checked := Try.checked }
namespace Rows
def none {H : Type} : Left H := { results := [], args := [] }

/-- 'tropicakeep.CostsMerge': WHATEVER THE INPUT: true; the input reads as it did. -/
def costsMergeSpec : ChangeSpec := { name := "costsMerge", fn := fun _ => fun
  | [d1, d2, d3] => { results := [.lit (.bool true)], args := [d1, d2, d3] }
  | _ => none }
def costsMergeRow : OpenClaim := { program := "yteniblkmokpjjaa", sum := "ab2b8bbf0080278e454489830f1e9b32633ea79d23323b86d777fb9a5091821e", func := "tropica/tropicakeep.CostsMerge", spec := "costsMerge", unfollowed := true, recurses := true, plainKeys := false, apart := false }
def CostsMergeSaid : Prop := costsMergeRow.holds Try.pinned (OpenSpec.ofChange costsMergeSpec)

/-- ITS FALSE NEIGHBOUR: 'it returns false'. Refute it at one input. -/
def costsMergeWrong : ChangeSpec := { name := "costsMerge", fn := fun _ => fun
  | [d1, d2, d3] => { results := [.lit (.bool false)], args := [d1, d2, d3] }
  | _ => none }
def CostsMergeWrongFalsely : Prop := costsMergeRow.holds Try.pinned (OpenSpec.ofChange costsMergeWrong)

/-- 'tropicakeep.LongestStands': WHATEVER THE INPUT: true; the input reads as it did. -/
def longestStandsSpec : ChangeSpec := { name := "longestStands", fn := fun _ => fun
  | [d] => { results := [.lit (.bool true)], args := [d] }
  | _ => none }
def longestStandsRow : OpenClaim := { program := "yteniblkmokpjjaa", sum := "ab2b8bbf0080278e454489830f1e9b32633ea79d23323b86d777fb9a5091821e", func := "tropica/tropicakeep.LongestStands", spec := "longestStands", unfollowed := true, recurses := true, plainKeys := false, apart := false }
def LongestStandsSaid : Prop := longestStandsRow.holds Try.pinned (OpenSpec.ofChange longestStandsSpec)

/-- ITS FALSE NEIGHBOUR: 'it returns false'. Refute it at one input. -/
def longestStandsWrong : ChangeSpec := { name := "longestStands", fn := fun _ => fun
  | [d] => { results := [.lit (.bool false)], args := [d] }
  | _ => none }
def LongestStandsWrongFalsely : Prop := longestStandsRow.holds Try.pinned (OpenSpec.ofChange longestStandsWrong)

/-- 'tropicakeep.LongestAdds': WHATEVER THE INPUT: true; the input reads as it did. -/
def longestAddsSpec : ChangeSpec := { name := "longestAdds", fn := fun _ => fun
  | [d1, d2] => { results := [.lit (.bool true)], args := [d1, d2] }
  | _ => none }
def longestAddsRow : OpenClaim := { program := "yteniblkmokpjjaa", sum := "ab2b8bbf0080278e454489830f1e9b32633ea79d23323b86d777fb9a5091821e", func := "tropica/tropicakeep.LongestAdds", spec := "longestAdds", unfollowed := true, recurses := true, plainKeys := false, apart := false }
def LongestAddsSaid : Prop := longestAddsRow.holds Try.pinned (OpenSpec.ofChange longestAddsSpec)

/-- ITS FALSE NEIGHBOUR: 'it returns false'. Refute it at one input. -/
def longestAddsWrong : ChangeSpec := { name := "longestAdds", fn := fun _ => fun
  | [d1, d2] => { results := [.lit (.bool false)], args := [d1, d2] }
  | _ => none }
def LongestAddsWrongFalsely : Prop := longestAddsRow.holds Try.pinned (OpenSpec.ofChange longestAddsWrong)

/-- 'tropicakeep.PathsAdd': WHATEVER THE INPUT: true; the input reads as it did. -/
def pathsAddSpec : ChangeSpec := { name := "pathsAdd", fn := fun _ => fun
  | [d1, d2] => { results := [.lit (.bool true)], args := [d1, d2] }
  | _ => none }
def pathsAddRow : OpenClaim := { program := "yteniblkmokpjjaa", sum := "ab2b8bbf0080278e454489830f1e9b32633ea79d23323b86d777fb9a5091821e", func := "tropica/tropicakeep.PathsAdd", spec := "pathsAdd", unfollowed := true, recurses := true, plainKeys := false, apart := false }
def PathsAddSaid : Prop := pathsAddRow.holds Try.pinned (OpenSpec.ofChange pathsAddSpec)

/-- ITS FALSE NEIGHBOUR: 'it returns false'. Refute it at one input. -/
def pathsAddWrong : ChangeSpec := { name := "pathsAdd", fn := fun _ => fun
  | [d1, d2] => { results := [.lit (.bool false)], args := [d1, d2] }
  | _ => none }
def PathsAddWrongFalsely : Prop := pathsAddRow.holds Try.pinned (OpenSpec.ofChange pathsAddWrong)

/-- 'tropicakeep.StarRound': WHATEVER THE INPUT: true; the input reads as it did. -/
def starRoundSpec : ChangeSpec := { name := "starRound", fn := fun _ => fun
  | [d] => { results := [.lit (.bool true)], args := [d] }
  | _ => none }
def starRoundRow : OpenClaim := { program := "yteniblkmokpjjaa", sum := "ab2b8bbf0080278e454489830f1e9b32633ea79d23323b86d777fb9a5091821e", func := "tropica/tropicakeep.StarRound", spec := "starRound", unfollowed := true, recurses := true, plainKeys := false, apart := false }
def StarRoundSaid : Prop := starRoundRow.holds Try.pinned (OpenSpec.ofChange starRoundSpec)

/-- ITS FALSE NEIGHBOUR: 'it returns false'. Refute it at one input. -/
def starRoundWrong : ChangeSpec := { name := "starRound", fn := fun _ => fun
  | [d] => { results := [.lit (.bool false)], args := [d] }
  | _ => none }
def StarRoundWrongFalsely : Prop := starRoundRow.holds Try.pinned (OpenSpec.ofChange starRoundWrong)

/-- 'tropicakeep.DistanceUnder': WHATEVER THE INPUT: true; the input reads as it did. -/
def distanceUnderSpec : ChangeSpec := { name := "distanceUnder", fn := fun _ => fun
  | [d1, d2, d3] => { results := [.lit (.bool true)], args := [d1, d2, d3] }
  | _ => none }
def distanceUnderRow : OpenClaim := { program := "yteniblkmokpjjaa", sum := "ab2b8bbf0080278e454489830f1e9b32633ea79d23323b86d777fb9a5091821e", func := "tropica/tropicakeep.DistanceUnder", spec := "distanceUnder", unfollowed := true, recurses := true, plainKeys := false, apart := false }
def DistanceUnderSaid : Prop := distanceUnderRow.holds Try.pinned (OpenSpec.ofChange distanceUnderSpec)

/-- ITS FALSE NEIGHBOUR: 'it returns false'. Refute it at one input. -/
def distanceUnderWrong : ChangeSpec := { name := "distanceUnder", fn := fun _ => fun
  | [d1, d2, d3] => { results := [.lit (.bool false)], args := [d1, d2, d3] }
  | _ => none }
def DistanceUnderWrongFalsely : Prop := distanceUnderRow.holds Try.pinned (OpenSpec.ofChange distanceUnderWrong)

/-- 'tropicakeep.BestLeast': WHATEVER THE INPUT: true; the input reads as it did. -/
def bestLeastSpec : ChangeSpec := { name := "bestLeast", fn := fun _ => fun
  | [d1, d2] => { results := [.lit (.bool true)], args := [d1, d2] }
  | _ => none }
def bestLeastRow : OpenClaim := { program := "yteniblkmokpjjaa", sum := "ab2b8bbf0080278e454489830f1e9b32633ea79d23323b86d777fb9a5091821e", func := "tropica/tropicakeep.BestLeast", spec := "bestLeast", unfollowed := true, recurses := true, plainKeys := false, apart := false }
def BestLeastSaid : Prop := bestLeastRow.holds Try.pinned (OpenSpec.ofChange bestLeastSpec)

/-- ITS FALSE NEIGHBOUR: 'it returns false'. Refute it at one input. -/
def bestLeastWrong : ChangeSpec := { name := "bestLeast", fn := fun _ => fun
  | [d1, d2] => { results := [.lit (.bool false)], args := [d1, d2] }
  | _ => none }
def BestLeastWrongFalsely : Prop := bestLeastRow.holds Try.pinned (OpenSpec.ofChange bestLeastWrong)

/-- 'tropicakeep.BestPays': WHATEVER THE INPUT: true; the input reads as it did. -/
def bestPaysSpec : ChangeSpec := { name := "bestPays", fn := fun _ => fun
  | [d] => { results := [.lit (.bool true)], args := [d] }
  | _ => none }
def bestPaysRow : OpenClaim := { program := "yteniblkmokpjjaa", sum := "ab2b8bbf0080278e454489830f1e9b32633ea79d23323b86d777fb9a5091821e", func := "tropica/tropicakeep.BestPays", spec := "bestPays", unfollowed := true, recurses := true, plainKeys := false, apart := false }
def BestPaysSaid : Prop := bestPaysRow.holds Try.pinned (OpenSpec.ofChange bestPaysSpec)

/-- ITS FALSE NEIGHBOUR: 'it returns false'. Refute it at one input. -/
def bestPaysWrong : ChangeSpec := { name := "bestPays", fn := fun _ => fun
  | [d] => { results := [.lit (.bool false)], args := [d] }
  | _ => none }
def BestPaysWrongFalsely : Prop := bestPaysRow.holds Try.pinned (OpenSpec.ofChange bestPaysWrong)

/-- 'tropicakeep.CostsRise': WHATEVER THE INPUT: true; the input reads as it did. -/
def costsRiseSpec : ChangeSpec := { name := "costsRise", fn := fun _ => fun
  | [d1, d2] => { results := [.lit (.bool true)], args := [d1, d2] }
  | _ => none }
def costsRiseRow : OpenClaim := { program := "yteniblkmokpjjaa", sum := "ab2b8bbf0080278e454489830f1e9b32633ea79d23323b86d777fb9a5091821e", func := "tropica/tropicakeep.CostsRise", spec := "costsRise", unfollowed := true, recurses := true, plainKeys := false, apart := false }
def CostsRiseSaid : Prop := costsRiseRow.holds Try.pinned (OpenSpec.ofChange costsRiseSpec)

/-- ITS FALSE NEIGHBOUR: 'it returns false'. Refute it at one input. -/
def costsRiseWrong : ChangeSpec := { name := "costsRise", fn := fun _ => fun
  | [d1, d2] => { results := [.lit (.bool false)], args := [d1, d2] }
  | _ => none }
def CostsRiseWrongFalsely : Prop := costsRiseRow.holds Try.pinned (OpenSpec.ofChange costsRiseWrong)

/-- 'tropicakeep.PushZero': WHATEVER THE INPUT: true; the input reads as it did. -/
def pushZeroSpec : ChangeSpec := { name := "pushZero", fn := fun _ => fun
  | [d] => { results := [.lit (.bool true)], args := [d] }
  | _ => none }
def pushZeroRow : OpenClaim := { program := "yteniblkmokpjjaa", sum := "ab2b8bbf0080278e454489830f1e9b32633ea79d23323b86d777fb9a5091821e", func := "tropica/tropicakeep.PushZero", spec := "pushZero", unfollowed := true, recurses := true, plainKeys := false, apart := false }
def PushZeroSaid : Prop := pushZeroRow.holds Try.pinned (OpenSpec.ofChange pushZeroSpec)

/-- ITS FALSE NEIGHBOUR: 'it returns false'. Refute it at one input. -/
def pushZeroWrong : ChangeSpec := { name := "pushZero", fn := fun _ => fun
  | [d] => { results := [.lit (.bool false)], args := [d] }
  | _ => none }
def PushZeroWrongFalsely : Prop := pushZeroRow.holds Try.pinned (OpenSpec.ofChange pushZeroWrong)

/-- 'tropicakeep.StreamCuts': WHATEVER THE INPUT: true; the input reads as it did. -/
def streamCutsSpec : ChangeSpec := { name := "streamCuts", fn := fun _ => fun
  | [d1, d2, d3] => { results := [.lit (.bool true)], args := [d1, d2, d3] }
  | _ => none }
def streamCutsRow : OpenClaim := { program := "yteniblkmokpjjaa", sum := "ab2b8bbf0080278e454489830f1e9b32633ea79d23323b86d777fb9a5091821e", func := "tropica/tropicakeep.StreamCuts", spec := "streamCuts", unfollowed := true, recurses := true, plainKeys := false, apart := false }
def StreamCutsSaid : Prop := streamCutsRow.holds Try.pinned (OpenSpec.ofChange streamCutsSpec)

/-- ITS FALSE NEIGHBOUR: 'it returns false'. Refute it at one input. -/
def streamCutsWrong : ChangeSpec := { name := "streamCuts", fn := fun _ => fun
  | [d1, d2, d3] => { results := [.lit (.bool false)], args := [d1, d2, d3] }
  | _ => none }
def StreamCutsWrongFalsely : Prop := streamCutsRow.holds Try.pinned (OpenSpec.ofChange streamCutsWrong)

/-- 'tropicakeep.ComposeExpanded': WHATEVER THE INPUT: true; the input reads as it did. -/
def composeExpandedSpec : ChangeSpec := { name := "composeExpanded", fn := fun _ => fun
  | [d1, d2, d3] => { results := [.lit (.bool true)], args := [d1, d2, d3] }
  | _ => none }
def composeExpandedRow : OpenClaim := { program := "yteniblkmokpjjaa", sum := "ab2b8bbf0080278e454489830f1e9b32633ea79d23323b86d777fb9a5091821e", func := "tropica/tropicakeep.ComposeExpanded", spec := "composeExpanded", unfollowed := true, recurses := true, plainKeys := false, apart := false }
def ComposeExpandedSaid : Prop := composeExpandedRow.holds Try.pinned (OpenSpec.ofChange composeExpandedSpec)

/-- ITS FALSE NEIGHBOUR: 'it returns false'. Refute it at one input. -/
def composeExpandedWrong : ChangeSpec := { name := "composeExpanded", fn := fun _ => fun
  | [d1, d2, d3] => { results := [.lit (.bool false)], args := [d1, d2, d3] }
  | _ => none }
def ComposeExpandedWrongFalsely : Prop := composeExpandedRow.holds Try.pinned (OpenSpec.ofChange composeExpandedWrong)

/- THE SECOND FORM. 'bulk': how many values and letters a reading holds, each counted each time it is reached (what is shared counts as often as it is met; a slice's spare places count too). A statement '..UptoSaid' is the law's where the arguments, and the package variables that the reading takes, are together of bulk at most 1048576: NARROWER than '..Said'. Prove '..Said' where nothing that the law and all that it calls make is longer than what came in: it says more and counts as full. Else prove '..UptoSaid'. A law counts once. -/
mutual
def uptoBulk {H : Type} : DataW H → Nat
  | .lit (.string bytes) => bytes.length + 1
  | .lit _ => 1
  | .nil => 1
  | .ptr d => uptoBulk d + 1
  | .slice elems spare => uptoBulkAll elems + uptoBulkAll spare + 1
  | .agg parts => uptoBulkAll parts + 1
  | .iface _ d => uptoBulk d + 1
  | .map entries => uptoBulkEntries entries + 1
  | .held _ => 1
def uptoBulkAll {H : Type} : List (DataW H) → Nat
  | [] => 0
  | d :: r => uptoBulk d + uptoBulkAll r
def uptoBulkEntries {H : Type} : List (Lit × DataW H) → Nat
  | [] => 0
  | x :: r => uptoBulkEntry x + uptoBulkEntries r
def uptoBulkEntry {H : Type} : Lit × DataW H → Nat
  | (.string bytes, d) => bytes.length + uptoBulk d + 1
  | (_, d) => uptoBulk d + 1
 end
def uptoSmall : (H : Type) → List (DataW H) → Bool := fun _ ds => decide (uptoBulkAll ds ≤ 1048576)
def OpenSpec.upto (s : _root_.Go.ChangeSpec) : _root_.Go.OpenSpec := { _root_.Go.OpenSpec.ofChange s with cond := some uptoSmall }

/-- 'tropicakeep.CostsMerge', WHERE WHAT IT READS IS OF BULK AT MOST 1048576: true; the input reads as it did. -/
def costsMergeUptoRow : OpenClaim := { program := "yteniblkmokpjjaa", sum := "ab2b8bbf0080278e454489830f1e9b32633ea79d23323b86d777fb9a5091821e", func := "tropica/tropicakeep.CostsMerge", spec := "costsMerge", unfollowed := true, recurses := true, plainKeys := false, apart := false, narrowed := true }
def CostsMergeUptoSaid : Prop := costsMergeUptoRow.holds Try.pinned (OpenSpec.upto costsMergeSpec)

/-- 'tropicakeep.LongestStands', WHERE WHAT IT READS IS OF BULK AT MOST 1048576: true; the input reads as it did. -/
def longestStandsUptoRow : OpenClaim := { program := "yteniblkmokpjjaa", sum := "ab2b8bbf0080278e454489830f1e9b32633ea79d23323b86d777fb9a5091821e", func := "tropica/tropicakeep.LongestStands", spec := "longestStands", unfollowed := true, recurses := true, plainKeys := false, apart := false, narrowed := true }
def LongestStandsUptoSaid : Prop := longestStandsUptoRow.holds Try.pinned (OpenSpec.upto longestStandsSpec)

/-- 'tropicakeep.LongestAdds', WHERE WHAT IT READS IS OF BULK AT MOST 1048576: true; the input reads as it did. -/
def longestAddsUptoRow : OpenClaim := { program := "yteniblkmokpjjaa", sum := "ab2b8bbf0080278e454489830f1e9b32633ea79d23323b86d777fb9a5091821e", func := "tropica/tropicakeep.LongestAdds", spec := "longestAdds", unfollowed := true, recurses := true, plainKeys := false, apart := false, narrowed := true }
def LongestAddsUptoSaid : Prop := longestAddsUptoRow.holds Try.pinned (OpenSpec.upto longestAddsSpec)

/-- 'tropicakeep.PathsAdd', WHERE WHAT IT READS IS OF BULK AT MOST 1048576: true; the input reads as it did. -/
def pathsAddUptoRow : OpenClaim := { program := "yteniblkmokpjjaa", sum := "ab2b8bbf0080278e454489830f1e9b32633ea79d23323b86d777fb9a5091821e", func := "tropica/tropicakeep.PathsAdd", spec := "pathsAdd", unfollowed := true, recurses := true, plainKeys := false, apart := false, narrowed := true }
def PathsAddUptoSaid : Prop := pathsAddUptoRow.holds Try.pinned (OpenSpec.upto pathsAddSpec)

/-- 'tropicakeep.StarRound', WHERE WHAT IT READS IS OF BULK AT MOST 1048576: true; the input reads as it did. -/
def starRoundUptoRow : OpenClaim := { program := "yteniblkmokpjjaa", sum := "ab2b8bbf0080278e454489830f1e9b32633ea79d23323b86d777fb9a5091821e", func := "tropica/tropicakeep.StarRound", spec := "starRound", unfollowed := true, recurses := true, plainKeys := false, apart := false, narrowed := true }
def StarRoundUptoSaid : Prop := starRoundUptoRow.holds Try.pinned (OpenSpec.upto starRoundSpec)

/-- 'tropicakeep.DistanceUnder', WHERE WHAT IT READS IS OF BULK AT MOST 1048576: true; the input reads as it did. -/
def distanceUnderUptoRow : OpenClaim := { program := "yteniblkmokpjjaa", sum := "ab2b8bbf0080278e454489830f1e9b32633ea79d23323b86d777fb9a5091821e", func := "tropica/tropicakeep.DistanceUnder", spec := "distanceUnder", unfollowed := true, recurses := true, plainKeys := false, apart := false, narrowed := true }
def DistanceUnderUptoSaid : Prop := distanceUnderUptoRow.holds Try.pinned (OpenSpec.upto distanceUnderSpec)

/-- 'tropicakeep.BestLeast', WHERE WHAT IT READS IS OF BULK AT MOST 1048576: true; the input reads as it did. -/
def bestLeastUptoRow : OpenClaim := { program := "yteniblkmokpjjaa", sum := "ab2b8bbf0080278e454489830f1e9b32633ea79d23323b86d777fb9a5091821e", func := "tropica/tropicakeep.BestLeast", spec := "bestLeast", unfollowed := true, recurses := true, plainKeys := false, apart := false, narrowed := true }
def BestLeastUptoSaid : Prop := bestLeastUptoRow.holds Try.pinned (OpenSpec.upto bestLeastSpec)

/-- 'tropicakeep.BestPays', WHERE WHAT IT READS IS OF BULK AT MOST 1048576: true; the input reads as it did. -/
def bestPaysUptoRow : OpenClaim := { program := "yteniblkmokpjjaa", sum := "ab2b8bbf0080278e454489830f1e9b32633ea79d23323b86d777fb9a5091821e", func := "tropica/tropicakeep.BestPays", spec := "bestPays", unfollowed := true, recurses := true, plainKeys := false, apart := false, narrowed := true }
def BestPaysUptoSaid : Prop := bestPaysUptoRow.holds Try.pinned (OpenSpec.upto bestPaysSpec)

/-- 'tropicakeep.CostsRise', WHERE WHAT IT READS IS OF BULK AT MOST 1048576: true; the input reads as it did. -/
def costsRiseUptoRow : OpenClaim := { program := "yteniblkmokpjjaa", sum := "ab2b8bbf0080278e454489830f1e9b32633ea79d23323b86d777fb9a5091821e", func := "tropica/tropicakeep.CostsRise", spec := "costsRise", unfollowed := true, recurses := true, plainKeys := false, apart := false, narrowed := true }
def CostsRiseUptoSaid : Prop := costsRiseUptoRow.holds Try.pinned (OpenSpec.upto costsRiseSpec)

/-- 'tropicakeep.PushZero', WHERE WHAT IT READS IS OF BULK AT MOST 1048576: true; the input reads as it did. -/
def pushZeroUptoRow : OpenClaim := { program := "yteniblkmokpjjaa", sum := "ab2b8bbf0080278e454489830f1e9b32633ea79d23323b86d777fb9a5091821e", func := "tropica/tropicakeep.PushZero", spec := "pushZero", unfollowed := true, recurses := true, plainKeys := false, apart := false, narrowed := true }
def PushZeroUptoSaid : Prop := pushZeroUptoRow.holds Try.pinned (OpenSpec.upto pushZeroSpec)

/-- 'tropicakeep.StreamCuts', WHERE WHAT IT READS IS OF BULK AT MOST 1048576: true; the input reads as it did. -/
def streamCutsUptoRow : OpenClaim := { program := "yteniblkmokpjjaa", sum := "ab2b8bbf0080278e454489830f1e9b32633ea79d23323b86d777fb9a5091821e", func := "tropica/tropicakeep.StreamCuts", spec := "streamCuts", unfollowed := true, recurses := true, plainKeys := false, apart := false, narrowed := true }
def StreamCutsUptoSaid : Prop := streamCutsUptoRow.holds Try.pinned (OpenSpec.upto streamCutsSpec)

/-- 'tropicakeep.ComposeExpanded', WHERE WHAT IT READS IS OF BULK AT MOST 1048576: true; the input reads as it did. -/
def composeExpandedUptoRow : OpenClaim := { program := "yteniblkmokpjjaa", sum := "ab2b8bbf0080278e454489830f1e9b32633ea79d23323b86d777fb9a5091821e", func := "tropica/tropicakeep.ComposeExpanded", spec := "composeExpanded", unfollowed := true, recurses := true, plainKeys := false, apart := false, narrowed := true }
def ComposeExpandedUptoSaid : Prop := composeExpandedUptoRow.holds Try.pinned (OpenSpec.upto composeExpandedSpec)

end Rows
end Go.Proofs.Yteniblkmokpjjaa
