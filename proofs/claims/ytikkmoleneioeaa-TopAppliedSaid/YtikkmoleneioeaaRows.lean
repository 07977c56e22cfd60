/-
  No cell of these rows narrows 'for every input' (looked for: loops, veiled, ifaces, maps, wideKeys, modest, calm, conditions, laid).
  DERIVED. THE GIVEN ROWS OF THIS SEAT. 5 by the template 'for every input the law returns true; each argument reads behind the call as it read before'; 0 by the template 'total and deterministic' (their statements: YtikkmoleneioeaaTotals.lean).
  GIVEN WITH THE SEED: the statements are not yours to turn. If you find one false, say at which input.
  Laid BY PROGRAM, IN A SANDBOX (cutbox-rows.mjs): the forced cells as the released guide's own fill.sh prints them over the translation c1b2dac8dfab7b38… (all of the seat's roots in one cut). By AI agents, Wed Nov 11 2026. No macro, syntax, notation, axiom, sorry.
-/
import Derived.Test.YtikkmoleneioeaaChecked
import GoSem.Claim
import GoSem.ClaimJoined
import GoSem.ClaimMapViews
import Derived.JoinedTies
import Derived.KernelRfl
namespace Go.Proofs.Ytikkmoleneioeaa
/- THE CELL 'sum', in the pinned program and in every row, IS THE sha256 OF THE DUMP (.gsa) THAT YtikkmoleneioeaaProg.lean LOADS. Nothing in Lean hashes anything: it is a label: what it is worth is what the hold of that sum in a sandbox is worth. -/
noncomputable def Try.pinned : Pinned := { name := "ytikkmoleneioeaa", sum := "c1b2dac8dfab7b387a8532946e3d6e9d2aa6c39e8fb23328c14950fc6c5714f5", checked := Try.checked }
namespace Rows
def none {H : Type} : Left H := { results := [], args := [] }

/-- 'tropicakeep.StreamCuts': WHATEVER THE INPUT: true; the input reads as it did. -/
def streamCutsSpec : ChangeSpec := { name := "streamCuts", fn := fun _ => fun
  | [d1, d2, d3] => { results := [.lit (.bool true)], args := [d1, d2, d3] }
  | _ => none }
def streamCutsRow : OpenClaim := { program := "ytikkmoleneioeaa", sum := "c1b2dac8dfab7b387a8532946e3d6e9d2aa6c39e8fb23328c14950fc6c5714f5", func := "tropica/tropicakeep.StreamCuts", spec := "streamCuts", unfollowed := true, recurses := true, plainKeys := false, apart := false }
def StreamCutsSaid : Prop := streamCutsRow.holds Try.pinned (OpenSpec.ofChange streamCutsSpec)

/-- ITS FALSE NEIGHBOUR: 'it returns false'. Refute it at one input. -/
def streamCutsWrong : ChangeSpec := { name := "streamCuts", fn := fun _ => fun
  | [d1, d2, d3] => { results := [.lit (.bool false)], args := [d1, d2, d3] }
  | _ => none }
def StreamCutsWrongFalsely : Prop := streamCutsRow.holds Try.pinned (OpenSpec.ofChange streamCutsWrong)

/-- 'tropicakeep.StreamFirst': WHATEVER THE INPUT: true; the input reads as it did. -/
def streamFirstSpec : ChangeSpec := { name := "streamFirst", fn := fun _ => fun
  | [d1, d2, d3] => { results := [.lit (.bool true)], args := [d1, d2, d3] }
  | _ => none }
def streamFirstRow : OpenClaim := { program := "ytikkmoleneioeaa", sum := "c1b2dac8dfab7b387a8532946e3d6e9d2aa6c39e8fb23328c14950fc6c5714f5", func := "tropica/tropicakeep.StreamFirst", spec := "streamFirst", unfollowed := true, recurses := true, plainKeys := false, apart := false }
def StreamFirstSaid : Prop := streamFirstRow.holds Try.pinned (OpenSpec.ofChange streamFirstSpec)

/-- ITS FALSE NEIGHBOUR: 'it returns false'. Refute it at one input. -/
def streamFirstWrong : ChangeSpec := { name := "streamFirst", fn := fun _ => fun
  | [d1, d2, d3] => { results := [.lit (.bool false)], args := [d1, d2, d3] }
  | _ => none }
def StreamFirstWrongFalsely : Prop := streamFirstRow.holds Try.pinned (OpenSpec.ofChange streamFirstWrong)

/-- 'tropicakeep.StreamCheapest': WHATEVER THE INPUT: true; the input reads as it did. -/
def streamCheapestSpec : ChangeSpec := { name := "streamCheapest", fn := fun _ => fun
  | [d1, d2] => { results := [.lit (.bool true)], args := [d1, d2] }
  | _ => none }
def streamCheapestRow : OpenClaim := { program := "ytikkmoleneioeaa", sum := "c1b2dac8dfab7b387a8532946e3d6e9d2aa6c39e8fb23328c14950fc6c5714f5", func := "tropica/tropicakeep.StreamCheapest", spec := "streamCheapest", unfollowed := true, recurses := true, plainKeys := false, apart := false }
def StreamCheapestSaid : Prop := streamCheapestRow.holds Try.pinned (OpenSpec.ofChange streamCheapestSpec)

/-- ITS FALSE NEIGHBOUR: 'it returns false'. Refute it at one input. -/
def streamCheapestWrong : ChangeSpec := { name := "streamCheapest", fn := fun _ => fun
  | [d1, d2] => { results := [.lit (.bool false)], args := [d1, d2] }
  | _ => none }
def StreamCheapestWrongFalsely : Prop := streamCheapestRow.holds Try.pinned (OpenSpec.ofChange streamCheapestWrong)

/-- 'tropicatop.TopBetween': WHATEVER THE INPUT: true; the input reads as it did. -/
def topBetweenSpec : ChangeSpec := { name := "topBetween", fn := fun _ => fun
  | [d1, d2, d3] => { results := [.lit (.bool true)], args := [d1, d2, d3] }
  | _ => none }
def topBetweenRow : OpenClaim := { program := "ytikkmoleneioeaa", sum := "c1b2dac8dfab7b387a8532946e3d6e9d2aa6c39e8fb23328c14950fc6c5714f5", func := "tropica/tropicatop.TopBetween", spec := "topBetween", unfollowed := true, recurses := true, plainKeys := false, apart := false }
def TopBetweenSaid : Prop := topBetweenRow.holds Try.pinned (OpenSpec.ofChange topBetweenSpec)

/-- ITS FALSE NEIGHBOUR: 'it returns false'. Refute it at one input. -/
def topBetweenWrong : ChangeSpec := { name := "topBetween", fn := fun _ => fun
  | [d1, d2, d3] => { results := [.lit (.bool false)], args := [d1, d2, d3] }
  | _ => none }
def TopBetweenWrongFalsely : Prop := topBetweenRow.holds Try.pinned (OpenSpec.ofChange topBetweenWrong)

/-- 'tropicatop.TopApplied': WHATEVER THE INPUT: true; the input reads as it did. -/
def topAppliedSpec : ChangeSpec := { name := "topApplied", fn := fun _ => fun
  | [d1, d2, d3] => { results := [.lit (.bool true)], args := [d1, d2, d3] }
  | _ => none }
def topAppliedRow : OpenClaim := { program := "ytikkmoleneioeaa", sum := "c1b2dac8dfab7b387a8532946e3d6e9d2aa6c39e8fb23328c14950fc6c5714f5", func := "tropica/tropicatop.TopApplied", spec := "topApplied", unfollowed := true, recurses := true, plainKeys := false, apart := false }
def TopAppliedSaid : Prop := topAppliedRow.holds Try.pinned (OpenSpec.ofChange topAppliedSpec)

/-- ITS FALSE NEIGHBOUR: 'it returns false'. Refute it at one input. -/
def topAppliedWrong : ChangeSpec := { name := "topApplied", fn := fun _ => fun
  | [d1, d2, d3] => { results := [.lit (.bool false)], args := [d1, d2, d3] }
  | _ => none }
def TopAppliedWrongFalsely : Prop := topAppliedRow.holds Try.pinned (OpenSpec.ofChange topAppliedWrong)

/- THE SECOND FORM. 'bulk': how many values and letters a reading holds, each counted each time it is reached (what is shared counts as often as it is met; a slice's spare places count too). A statement '..UptoSaid' is the law's where the arguments, and the package variables that the reading takes, are together of bulk at most 1048576: NARROWER than '..Said'. Prove '..Said' where nothing that the law and all that it calls make is longer than what came in: it says more and counts as full. Else prove '..UptoSaid'. A law counts once. -/
mutual
def uptoBulk {H : Type} : DataW H → Nat
  | .lit (.string bytes) => bytes.length + 1
  | .lit _ => 1
  | .nil => 1
  | .ptr d => uptoBulk d + 1
  | .slice elems spare => uptoBulkAll elems + uptoBulkAll spare + 1
  | .agg parts => uptoBulkAll parts + 1
  | .iface _ d => uptoBulk d + 1
  | .map entries => uptoBulkEntries entries + 1
  | .held _ => 1
def uptoBulkAll {H : Type} : List (DataW H) → Nat
  | [] => 0
  | d :: r => uptoBulk d + uptoBulkAll r
def uptoBulkEntries {H : Type} : List (Lit × DataW H) → Nat
  | [] => 0
  | x :: r => uptoBulkEntry x + uptoBulkEntries r
def uptoBulkEntry {H : Type} : Lit × DataW H → Nat
  | (.string bytes, d) => bytes.length + uptoBulk d + 1
  | (_, d) => uptoBulk d + 1
 end
def uptoSmall : (H : Type) → List (DataW H) → Bool := fun _ ds => decide (uptoBulkAll ds ≤ 1048576)
def OpenSpec.upto (s : _root_.Go.ChangeSpec) : _root_.Go.OpenSpec := { _root_.Go.OpenSpec.ofChange s with cond := some uptoSmall }

/-- 'tropicakeep.StreamCuts', WHERE WHAT IT READS IS OF BULK AT MOST 1048576: true; the input reads as it did. -/
def streamCutsUptoRow : OpenClaim := { program := "ytikkmoleneioeaa", sum := "c1b2dac8dfab7b387a8532946e3d6e9d2aa6c39e8fb23328c14950fc6c5714f5", func := "tropica/tropicakeep.StreamCuts", spec := "streamCuts", unfollowed := true, recurses := true, plainKeys := false, apart := false, narrowed := true }
def StreamCutsUptoSaid : Prop := streamCutsUptoRow.holds Try.pinned (OpenSpec.upto streamCutsSpec)

/-- 'tropicakeep.StreamFirst', WHERE WHAT IT READS IS OF BULK AT MOST 1048576: true; the input reads as it did. -/
def streamFirstUptoRow : OpenClaim := { program := "ytikkmoleneioeaa", sum := "c1b2dac8dfab7b387a8532946e3d6e9d2aa6c39e8fb23328c14950fc6c5714f5", func := "tropica/tropicakeep.StreamFirst", spec := "streamFirst", unfollowed := true, recurses := true, plainKeys := false, apart := false, narrowed := true }
def StreamFirstUptoSaid : Prop := streamFirstUptoRow.holds Try.pinned (OpenSpec.upto streamFirstSpec)

/-- 'tropicakeep.StreamCheapest', WHERE WHAT IT READS IS OF BULK AT MOST 1048576: true; the input reads as it did. -/
def streamCheapestUptoRow : OpenClaim := { program := "ytikkmoleneioeaa", sum := "c1b2dac8dfab7b387a8532946e3d6e9d2aa6c39e8fb23328c14950fc6c5714f5", func := "tropica/tropicakeep.StreamCheapest", spec := "streamCheapest", unfollowed := true, recurses := true, plainKeys := false, apart := false, narrowed := true }
def StreamCheapestUptoSaid : Prop := streamCheapestUptoRow.holds Try.pinned (OpenSpec.upto streamCheapestSpec)

/-- 'tropicatop.TopBetween', WHERE WHAT IT READS IS OF BULK AT MOST 1048576: true; the input reads as it did. -/
def topBetweenUptoRow : OpenClaim := { program := "ytikkmoleneioeaa", sum := "c1b2dac8dfab7b387a8532946e3d6e9d2aa6c39e8fb23328c14950fc6c5714f5", func := "tropica/tropicatop.TopBetween", spec := "topBetween", unfollowed := true, recurses := true, plainKeys := false, apart := false, narrowed := true }
def TopBetweenUptoSaid : Prop := topBetweenUptoRow.holds Try.pinned (OpenSpec.upto topBetweenSpec)

/-- 'tropicatop.TopApplied', WHERE WHAT IT READS IS OF BULK AT MOST 1048576: true; the input reads as it did. -/
def topAppliedUptoRow : OpenClaim := { program := "ytikkmoleneioeaa", sum := "c1b2dac8dfab7b387a8532946e3d6e9d2aa6c39e8fb23328c14950fc6c5714f5", func := "tropica/tropicatop.TopApplied", spec := "topApplied", unfollowed := true, recurses := true, plainKeys := false, apart := false, narrowed := true }
def TopAppliedUptoSaid : Prop := topAppliedUptoRow.holds Try.pinned (OpenSpec.upto topAppliedSpec)

end Rows
end Go.Proofs.Ytikkmoleneioeaa
