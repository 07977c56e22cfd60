/-
  No cell of these rows narrows 'for every input' (looked for: loops, veiled, ifaces, maps, wideKeys, modest, calm, conditions, laid).
  DERIVED. THE GIVEN ROWS OF THIS SEAT. 12 by the template 'for every input the law returns true; each argument reads behind the call as it read before'; 0 by the template 'total and deterministic' (their statements: YtgepgokaodcpcaaTotals.lean).
  GIVEN WITH THE SEED: the statements are not yours to turn. If you find one false, say at which input.
  Laid BY PROGRAM, IN A SANDBOX (cutbox-rows.mjs): the forced cells as the released guide's own fill.sh prints them over the translation 12c0bfaef06c56b3… (all of the seat's roots in one cut). By AI agents, Wed Nov 11 2026. No macro, syntax, notation, axiom, sorry.
-/
import Derived.Test.YtgepgokaodcpcaaChecked
import GoSem.Claim
import GoSem.ClaimJoined
import GoSem.ClaimMapViews
import Derived.JoinedTies
import Derived.KernelRfl
namespace Go.Proofs.Ytgepgokaodcpcaa
/- THE CELL 'sum', in the pinned program and in every row, IS THE sha256 OF THE DUMP (.gsa) THAT YtgepgokaodcpcaaProg.lean LOADS. Nothing in Lean hashes anything: it is a label: what it is worth is what the hold of that sum in a sandbox is worth. -/
noncomputable def Try.pinned : Pinned := { name := "ytgepgokaodcpcaa", sum := "12c0bfaef06c56b3c2e8632f63c5558f35d9d985360ef757577e56f60e03ae56", checked := Try.checked }
namespace Rows
def none {H : Type} : Left H := { results := [], args := [] }

/-- 'tropicakeep.TwinOrder': WHATEVER THE INPUT: true; the input reads as it did. -/
def twinOrderSpec : ChangeSpec := { name := "twinOrder", fn := fun _ => fun
  | [d1, d2, d3] => { results := [.lit (.bool true)], args := [d1, d2, d3] }
  | _ => none }
def twinOrderRow : OpenClaim := { program := "ytgepgokaodcpcaa", sum := "12c0bfaef06c56b3c2e8632f63c5558f35d9d985360ef757577e56f60e03ae56", func := "tropica/tropicakeep.TwinOrder", spec := "twinOrder", plainKeys := false, apart := false }
def TwinOrderSaid : Prop := twinOrderRow.holds Try.pinned (OpenSpec.ofChange twinOrderSpec)

/-- ITS FALSE NEIGHBOUR: 'it returns false'. Refute it at one input. -/
def twinOrderWrong : ChangeSpec := { name := "twinOrder", fn := fun _ => fun
  | [d1, d2, d3] => { results := [.lit (.bool false)], args := [d1, d2, d3] }
  | _ => none }
def TwinOrderWrongFalsely : Prop := twinOrderRow.holds Try.pinned (OpenSpec.ofChange twinOrderWrong)

/-- 'tropicakeep.WeightOver': WHATEVER THE INPUT: true; the input reads as it did. -/
def weightOverSpec : ChangeSpec := { name := "weightOver", fn := fun _ => fun
  | [d1, d2] => { results := [.lit (.bool true)], args := [d1, d2] }
  | _ => none }
def weightOverRow : OpenClaim := { program := "ytgepgokaodcpcaa", sum := "12c0bfaef06c56b3c2e8632f63c5558f35d9d985360ef757577e56f60e03ae56", func := "tropica/tropicakeep.WeightOver", spec := "weightOver", plainKeys := false, apart := false }
def WeightOverSaid : Prop := weightOverRow.holds Try.pinned (OpenSpec.ofChange weightOverSpec)

/-- ITS FALSE NEIGHBOUR: 'it returns false'. Refute it at one input. -/
def weightOverWrong : ChangeSpec := { name := "weightOver", fn := fun _ => fun
  | [d1, d2] => { results := [.lit (.bool false)], args := [d1, d2] }
  | _ => none }
def WeightOverWrongFalsely : Prop := weightOverRow.holds Try.pinned (OpenSpec.ofChange weightOverWrong)

/-- 'tropicakeep.WeightRing': WHATEVER THE INPUT: true; the input reads as it did. -/
def weightRingSpec : ChangeSpec := { name := "weightRing", fn := fun _ => fun
  | [d1, d2, d3] => { results := [.lit (.bool true)], args := [d1, d2, d3] }
  | _ => none }
def weightRingRow : OpenClaim := { program := "ytgepgokaodcpcaa", sum := "12c0bfaef06c56b3c2e8632f63c5558f35d9d985360ef757577e56f60e03ae56", func := "tropica/tropicakeep.WeightRing", spec := "weightRing", plainKeys := false, apart := false }
def WeightRingSaid : Prop := weightRingRow.holds Try.pinned (OpenSpec.ofChange weightRingSpec)

/-- ITS FALSE NEIGHBOUR: 'it returns false'. Refute it at one input. -/
def weightRingWrong : ChangeSpec := { name := "weightRing", fn := fun _ => fun
  | [d1, d2, d3] => { results := [.lit (.bool false)], args := [d1, d2, d3] }
  | _ => none }
def WeightRingWrongFalsely : Prop := weightRingRow.holds Try.pinned (OpenSpec.ofChange weightRingWrong)

/-- 'tropicakeep.SumSplits': WHATEVER THE INPUT: true; the input reads as it did. -/
def sumSplitsSpec : ChangeSpec := { name := "sumSplits", fn := fun _ => fun
  | [d1, d2] => { results := [.lit (.bool true)], args := [d1, d2] }
  | _ => none }
def sumSplitsRow : OpenClaim := { program := "ytgepgokaodcpcaa", sum := "12c0bfaef06c56b3c2e8632f63c5558f35d9d985360ef757577e56f60e03ae56", func := "tropica/tropicakeep.SumSplits", spec := "sumSplits", plainKeys := false, apart := false }
def SumSplitsSaid : Prop := sumSplitsRow.holds Try.pinned (OpenSpec.ofChange sumSplitsSpec)

/-- ITS FALSE NEIGHBOUR: 'it returns false'. Refute it at one input. -/
def sumSplitsWrong : ChangeSpec := { name := "sumSplits", fn := fun _ => fun
  | [d1, d2] => { results := [.lit (.bool false)], args := [d1, d2] }
  | _ => none }
def SumSplitsWrongFalsely : Prop := sumSplitsRow.holds Try.pinned (OpenSpec.ofChange sumSplitsWrong)

/-- 'tropicakeep.TwinRing': WHATEVER THE INPUT: true; the input reads as it did. -/
def twinRingSpec : ChangeSpec := { name := "twinRing", fn := fun _ => fun
  | [d] => { results := [.lit (.bool true)], args := [d] }
  | _ => none }
def twinRingRow : OpenClaim := { program := "ytgepgokaodcpcaa", sum := "12c0bfaef06c56b3c2e8632f63c5558f35d9d985360ef757577e56f60e03ae56", func := "tropica/tropicakeep.TwinRing", spec := "twinRing", plainKeys := false, apart := false }
def TwinRingSaid : Prop := twinRingRow.holds Try.pinned (OpenSpec.ofChange twinRingSpec)

/-- ITS FALSE NEIGHBOUR: 'it returns false'. Refute it at one input. -/
def twinRingWrong : ChangeSpec := { name := "twinRing", fn := fun _ => fun
  | [d] => { results := [.lit (.bool false)], args := [d] }
  | _ => none }
def TwinRingWrongFalsely : Prop := twinRingRow.holds Try.pinned (OpenSpec.ofChange twinRingWrong)

/-- 'tropicakeep.PowerAdds': WHATEVER THE INPUT: true; the input reads as it did. -/
def powerAddsSpec : ChangeSpec := { name := "powerAdds", fn := fun _ => fun
  | [d1, d2, d3, d4] => { results := [.lit (.bool true)], args := [d1, d2, d3, d4] }
  | _ => none }
def powerAddsRow : OpenClaim := { program := "ytgepgokaodcpcaa", sum := "12c0bfaef06c56b3c2e8632f63c5558f35d9d985360ef757577e56f60e03ae56", func := "tropica/tropicakeep.PowerAdds", spec := "powerAdds", unfollowed := true, recurses := true, plainKeys := false, apart := false }
def PowerAddsSaid : Prop := powerAddsRow.holds Try.pinned (OpenSpec.ofChange powerAddsSpec)

/-- ITS FALSE NEIGHBOUR: 'it returns false'. Refute it at one input. -/
def powerAddsWrong : ChangeSpec := { name := "powerAdds", fn := fun _ => fun
  | [d1, d2, d3, d4] => { results := [.lit (.bool false)], args := [d1, d2, d3, d4] }
  | _ => none }
def PowerAddsWrongFalsely : Prop := powerAddsRow.holds Try.pinned (OpenSpec.ofChange powerAddsWrong)

/-- 'tropicakeep.InvertTwice': WHATEVER THE INPUT: true; the input reads as it did. -/
def invertTwiceSpec : ChangeSpec := { name := "invertTwice", fn := fun _ => fun
  | [d] => { results := [.lit (.bool true)], args := [d] }
  | _ => none }
def invertTwiceRow : OpenClaim := { program := "ytgepgokaodcpcaa", sum := "12c0bfaef06c56b3c2e8632f63c5558f35d9d985360ef757577e56f60e03ae56", func := "tropica/tropicakeep.InvertTwice", spec := "invertTwice", unfollowed := true, recurses := true, plainKeys := false, apart := false }
def InvertTwiceSaid : Prop := invertTwiceRow.holds Try.pinned (OpenSpec.ofChange invertTwiceSpec)

/-- ITS FALSE NEIGHBOUR: 'it returns false'. Refute it at one input. -/
def invertTwiceWrong : ChangeSpec := { name := "invertTwice", fn := fun _ => fun
  | [d] => { results := [.lit (.bool false)], args := [d] }
  | _ => none }
def InvertTwiceWrongFalsely : Prop := invertTwiceRow.holds Try.pinned (OpenSpec.ofChange invertTwiceWrong)

/-- 'tropicakeep.CoreTells': WHATEVER THE INPUT: true; the input reads as it did. -/
def coreTellsSpec : ChangeSpec := { name := "coreTells", fn := fun _ => fun
  | [d1, d2] => { results := [.lit (.bool true)], args := [d1, d2] }
  | _ => none }
def coreTellsRow : OpenClaim := { program := "ytgepgokaodcpcaa", sum := "12c0bfaef06c56b3c2e8632f63c5558f35d9d985360ef757577e56f60e03ae56", func := "tropica/tropicakeep.CoreTells", spec := "coreTells", unfollowed := true, recurses := true, plainKeys := false, apart := false }
def CoreTellsSaid : Prop := coreTellsRow.holds Try.pinned (OpenSpec.ofChange coreTellsSpec)

/-- ITS FALSE NEIGHBOUR: 'it returns false'. Refute it at one input. -/
def coreTellsWrong : ChangeSpec := { name := "coreTells", fn := fun _ => fun
  | [d1, d2] => { results := [.lit (.bool false)], args := [d1, d2] }
  | _ => none }
def CoreTellsWrongFalsely : Prop := coreTellsRow.holds Try.pinned (OpenSpec.ofChange coreTellsWrong)

/-- 'tropicakeep.PackedFixed': WHATEVER THE INPUT: true; the input reads as it did. -/
def packedFixedSpec : ChangeSpec := { name := "packedFixed", fn := fun _ => fun
  | [d] => { results := [.lit (.bool true)], args := [d] }
  | _ => none }
def packedFixedRow : OpenClaim := { program := "ytgepgokaodcpcaa", sum := "12c0bfaef06c56b3c2e8632f63c5558f35d9d985360ef757577e56f60e03ae56", func := "tropica/tropicakeep.PackedFixed", spec := "packedFixed", unfollowed := true, recurses := true, plainKeys := false, apart := false }
def PackedFixedSaid : Prop := packedFixedRow.holds Try.pinned (OpenSpec.ofChange packedFixedSpec)

/-- ITS FALSE NEIGHBOUR: 'it returns false'. Refute it at one input. -/
def packedFixedWrong : ChangeSpec := { name := "packedFixed", fn := fun _ => fun
  | [d] => { results := [.lit (.bool false)], args := [d] }
  | _ => none }
def PackedFixedWrongFalsely : Prop := packedFixedRow.holds Try.pinned (OpenSpec.ofChange packedFixedWrong)

/-- 'tropicakeep.PackedOne': WHATEVER THE INPUT: true; the input reads as it did. -/
def packedOneSpec : ChangeSpec := { name := "packedOne", fn := fun _ => fun
  | [d1, d2, d3] => { results := [.lit (.bool true)], args := [d1, d2, d3] }
  | _ => none }
def packedOneRow : OpenClaim := { program := "ytgepgokaodcpcaa", sum := "12c0bfaef06c56b3c2e8632f63c5558f35d9d985360ef757577e56f60e03ae56", func := "tropica/tropicakeep.PackedOne", spec := "packedOne", unfollowed := true, recurses := true, plainKeys := false, apart := false }
def PackedOneSaid : Prop := packedOneRow.holds Try.pinned (OpenSpec.ofChange packedOneSpec)

/-- ITS FALSE NEIGHBOUR: 'it returns false'. Refute it at one input. -/
def packedOneWrong : ChangeSpec := { name := "packedOne", fn := fun _ => fun
  | [d1, d2, d3] => { results := [.lit (.bool false)], args := [d1, d2, d3] }
  | _ => none }
def PackedOneWrongFalsely : Prop := packedOneRow.holds Try.pinned (OpenSpec.ofChange packedOneWrong)

/-- 'tropicakeep.TrimAll': WHATEVER THE INPUT: true; the input reads as it did. -/
def trimAllSpec : ChangeSpec := { name := "trimAll", fn := fun _ => fun
  | [d] => { results := [.lit (.bool true)], args := [d] }
  | _ => none }
def trimAllRow : OpenClaim := { program := "ytgepgokaodcpcaa", sum := "12c0bfaef06c56b3c2e8632f63c5558f35d9d985360ef757577e56f60e03ae56", func := "tropica/tropicakeep.TrimAll", spec := "trimAll", unfollowed := true, recurses := true, plainKeys := false, apart := false }
def TrimAllSaid : Prop := trimAllRow.holds Try.pinned (OpenSpec.ofChange trimAllSpec)

/-- ITS FALSE NEIGHBOUR: 'it returns false'. Refute it at one input. -/
def trimAllWrong : ChangeSpec := { name := "trimAll", fn := fun _ => fun
  | [d] => { results := [.lit (.bool false)], args := [d] }
  | _ => none }
def TrimAllWrongFalsely : Prop := trimAllRow.holds Try.pinned (OpenSpec.ofChange trimAllWrong)

/-- 'tropicakeep.DistanceMeets': WHATEVER THE INPUT: true; the input reads as it did. -/
def distanceMeetsSpec : ChangeSpec := { name := "distanceMeets", fn := fun _ => fun
  | [d] => { results := [.lit (.bool true)], args := [d] }
  | _ => none }
def distanceMeetsRow : OpenClaim := { program := "ytgepgokaodcpcaa", sum := "12c0bfaef06c56b3c2e8632f63c5558f35d9d985360ef757577e56f60e03ae56", func := "tropica/tropicakeep.DistanceMeets", spec := "distanceMeets", unfollowed := true, recurses := true, plainKeys := false, apart := false }
def DistanceMeetsSaid : Prop := distanceMeetsRow.holds Try.pinned (OpenSpec.ofChange distanceMeetsSpec)

/-- ITS FALSE NEIGHBOUR: 'it returns false'. Refute it at one input. -/
def distanceMeetsWrong : ChangeSpec := { name := "distanceMeets", fn := fun _ => fun
  | [d] => { results := [.lit (.bool false)], args := [d] }
  | _ => none }
def DistanceMeetsWrongFalsely : Prop := distanceMeetsRow.holds Try.pinned (OpenSpec.ofChange distanceMeetsWrong)

/- THE SECOND FORM. 'bulk': how many values and letters a reading holds, each counted each time it is reached (what is shared counts as often as it is met; a slice's spare places count too). A statement '..UptoSaid' is the law's where the arguments, and the package variables that the reading takes, are together of bulk at most 1048576: NARROWER than '..Said'. Prove '..Said' where nothing that the law and all that it calls make is longer than what came in: it says more and counts as full. Else prove '..UptoSaid'. A law counts once. -/
mutual
def uptoBulk {H : Type} : DataW H → Nat
  | .lit (.string bytes) => bytes.length + 1
  | .lit _ => 1
  | .nil => 1
  | .ptr d => uptoBulk d + 1
  | .slice elems spare => uptoBulkAll elems + uptoBulkAll spare + 1
  | .agg parts => uptoBulkAll parts + 1
  | .iface _ d => uptoBulk d + 1
  | .map entries => uptoBulkEntries entries + 1
  | .held _ => 1
def uptoBulkAll {H : Type} : List (DataW H) → Nat
  | [] => 0
  | d :: r => uptoBulk d + uptoBulkAll r
def uptoBulkEntries {H : Type} : List (Lit × DataW H) → Nat
  | [] => 0
  | x :: r => uptoBulkEntry x + uptoBulkEntries r
def uptoBulkEntry {H : Type} : Lit × DataW H → Nat
  | (.string bytes, d) => bytes.length + uptoBulk d + 1
  | (_, d) => uptoBulk d + 1
 end
def uptoSmall : (H : Type) → List (DataW H) → Bool := fun _ ds => decide (uptoBulkAll ds ≤ 1048576)
def OpenSpec.upto (s : _root_.Go.ChangeSpec) : _root_.Go.OpenSpec := { _root_.Go.OpenSpec.ofChange s with cond := some uptoSmall }

/-- 'tropicakeep.TwinOrder', WHERE WHAT IT READS IS OF BULK AT MOST 1048576: true; the input reads as it did. -/
def twinOrderUptoRow : OpenClaim := { program := "ytgepgokaodcpcaa", sum := "12c0bfaef06c56b3c2e8632f63c5558f35d9d985360ef757577e56f60e03ae56", func := "tropica/tropicakeep.TwinOrder", spec := "twinOrder", plainKeys := false, apart := false, narrowed := true }
def TwinOrderUptoSaid : Prop := twinOrderUptoRow.holds Try.pinned (OpenSpec.upto twinOrderSpec)

/-- 'tropicakeep.WeightOver', WHERE WHAT IT READS IS OF BULK AT MOST 1048576: true; the input reads as it did. -/
def weightOverUptoRow : OpenClaim := { program := "ytgepgokaodcpcaa", sum := "12c0bfaef06c56b3c2e8632f63c5558f35d9d985360ef757577e56f60e03ae56", func := "tropica/tropicakeep.WeightOver", spec := "weightOver", plainKeys := false, apart := false, narrowed := true }
def WeightOverUptoSaid : Prop := weightOverUptoRow.holds Try.pinned (OpenSpec.upto weightOverSpec)

/-- 'tropicakeep.WeightRing', WHERE WHAT IT READS IS OF BULK AT MOST 1048576: true; the input reads as it did. -/
def weightRingUptoRow : OpenClaim := { program := "ytgepgokaodcpcaa", sum := "12c0bfaef06c56b3c2e8632f63c5558f35d9d985360ef757577e56f60e03ae56", func := "tropica/tropicakeep.WeightRing", spec := "weightRing", plainKeys := false, apart := false, narrowed := true }
def WeightRingUptoSaid : Prop := weightRingUptoRow.holds Try.pinned (OpenSpec.upto weightRingSpec)

/-- 'tropicakeep.SumSplits', WHERE WHAT IT READS IS OF BULK AT MOST 1048576: true; the input reads as it did. -/
def sumSplitsUptoRow : OpenClaim := { program := "ytgepgokaodcpcaa", sum := "12c0bfaef06c56b3c2e8632f63c5558f35d9d985360ef757577e56f60e03ae56", func := "tropica/tropicakeep.SumSplits", spec := "sumSplits", plainKeys := false, apart := false, narrowed := true }
def SumSplitsUptoSaid : Prop := sumSplitsUptoRow.holds Try.pinned (OpenSpec.upto sumSplitsSpec)

/-- 'tropicakeep.TwinRing', WHERE WHAT IT READS IS OF BULK AT MOST 1048576: true; the input reads as it did. -/
def twinRingUptoRow : OpenClaim := { program := "ytgepgokaodcpcaa", sum := "12c0bfaef06c56b3c2e8632f63c5558f35d9d985360ef757577e56f60e03ae56", func := "tropica/tropicakeep.TwinRing", spec := "twinRing", plainKeys := false, apart := false, narrowed := true }
def TwinRingUptoSaid : Prop := twinRingUptoRow.holds Try.pinned (OpenSpec.upto twinRingSpec)

/-- 'tropicakeep.PowerAdds', WHERE WHAT IT READS IS OF BULK AT MOST 1048576: true; the input reads as it did. -/
def powerAddsUptoRow : OpenClaim := { program := "ytgepgokaodcpcaa", sum := "12c0bfaef06c56b3c2e8632f63c5558f35d9d985360ef757577e56f60e03ae56", func := "tropica/tropicakeep.PowerAdds", spec := "powerAdds", unfollowed := true, recurses := true, plainKeys := false, apart := false, narrowed := true }
def PowerAddsUptoSaid : Prop := powerAddsUptoRow.holds Try.pinned (OpenSpec.upto powerAddsSpec)

/-- 'tropicakeep.InvertTwice', WHERE WHAT IT READS IS OF BULK AT MOST 1048576: true; the input reads as it did. -/
def invertTwiceUptoRow : OpenClaim := { program := "ytgepgokaodcpcaa", sum := "12c0bfaef06c56b3c2e8632f63c5558f35d9d985360ef757577e56f60e03ae56", func := "tropica/tropicakeep.InvertTwice", spec := "invertTwice", unfollowed := true, recurses := true, plainKeys := false, apart := false, narrowed := true }
def InvertTwiceUptoSaid : Prop := invertTwiceUptoRow.holds Try.pinned (OpenSpec.upto invertTwiceSpec)

/-- 'tropicakeep.CoreTells', WHERE WHAT IT READS IS OF BULK AT MOST 1048576: true; the input reads as it did. -/
def coreTellsUptoRow : OpenClaim := { program := "ytgepgokaodcpcaa", sum := "12c0bfaef06c56b3c2e8632f63c5558f35d9d985360ef757577e56f60e03ae56", func := "tropica/tropicakeep.CoreTells", spec := "coreTells", unfollowed := true, recurses := true, plainKeys := false, apart := false, narrowed := true }
def CoreTellsUptoSaid : Prop := coreTellsUptoRow.holds Try.pinned (OpenSpec.upto coreTellsSpec)

/-- 'tropicakeep.PackedFixed', WHERE WHAT IT READS IS OF BULK AT MOST 1048576: true; the input reads as it did. -/
def packedFixedUptoRow : OpenClaim := { program := "ytgepgokaodcpcaa", sum := "12c0bfaef06c56b3c2e8632f63c5558f35d9d985360ef757577e56f60e03ae56", func := "tropica/tropicakeep.PackedFixed", spec := "packedFixed", unfollowed := true, recurses := true, plainKeys := false, apart := false, narrowed := true }
def PackedFixedUptoSaid : Prop := packedFixedUptoRow.holds Try.pinned (OpenSpec.upto packedFixedSpec)

/-- 'tropicakeep.PackedOne', WHERE WHAT IT READS IS OF BULK AT MOST 1048576: true; the input reads as it did. -/
def packedOneUptoRow : OpenClaim := { program := "ytgepgokaodcpcaa", sum := "12c0bfaef06c56b3c2e8632f63c5558f35d9d985360ef757577e56f60e03ae56", func := "tropica/tropicakeep.PackedOne", spec := "packedOne", unfollowed := true, recurses := true, plainKeys := false, apart := false, narrowed := true }
def PackedOneUptoSaid : Prop := packedOneUptoRow.holds Try.pinned (OpenSpec.upto packedOneSpec)

/-- 'tropicakeep.TrimAll', WHERE WHAT IT READS IS OF BULK AT MOST 1048576: true; the input reads as it did. -/
def trimAllUptoRow : OpenClaim := { program := "ytgepgokaodcpcaa", sum := "12c0bfaef06c56b3c2e8632f63c5558f35d9d985360ef757577e56f60e03ae56", func := "tropica/tropicakeep.TrimAll", spec := "trimAll", unfollowed := true, recurses := true, plainKeys := false, apart := false, narrowed := true }
def TrimAllUptoSaid : Prop := trimAllUptoRow.holds Try.pinned (OpenSpec.upto trimAllSpec)

/-- 'tropicakeep.DistanceMeets', WHERE WHAT IT READS IS OF BULK AT MOST 1048576: true; the input reads as it did. -/
def distanceMeetsUptoRow : OpenClaim := { program := "ytgepgokaodcpcaa", sum := "12c0bfaef06c56b3c2e8632f63c5558f35d9d985360ef757577e56f60e03ae56", func := "tropica/tropicakeep.DistanceMeets", spec := "distanceMeets", unfollowed := true, recurses := true, plainKeys := false, apart := false, narrowed := true }
def DistanceMeetsUptoSaid : Prop := distanceMeetsUptoRow.holds Try.pinned (OpenSpec.upto distanceMeetsSpec)

end Rows
end Go.Proofs.Ytgepgokaodcpcaa
