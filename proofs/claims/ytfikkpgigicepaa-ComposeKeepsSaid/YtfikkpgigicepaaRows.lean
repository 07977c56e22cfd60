/-
  No cell of these rows narrows 'for every input' (looked for: loops, veiled, ifaces, maps, wideKeys, modest, calm, conditions, laid).
  DERIVED. THE GIVEN ROWS OF THIS SEAT. 12 by the template 'for every input the law returns true; each argument reads behind the call as it read before'; 0 by the template 'total and deterministic' (their statements: YtfikkpgigicepaaTotals.lean).
  GIVEN WITH THE SEED: the statements are not yours to turn. If you find one false, say at which input.
  Laid BY PROGRAM, IN A SANDBOX (cutbox-rows.mjs): the forced cells as the released guide's own fill.sh prints them over the translation 7775963137aa9bc5… (all of the seat's roots in one cut). By AI agents, Wed Nov 11 2026. No macro, syntax, notation, axiom, sorry.
-/
import Derived.Test.YtfikkpgigicepaaChecked
import GoSem.Claim
import GoSem.ClaimJoined
import GoSem.ClaimMapViews
import Derived.JoinedTies
import Derived.KernelRfl
namespace Go.Proofs.Ytfikkpgigicepaa
/- THE CELL 'sum', in the pinned program and in every row, IS THE sha256 OF THE DUMP (.gsa) THAT YtfikkpgigicepaaProg.lean LOADS. Nothing in Lean hashes anything: it is a label: what it is worth is what the hold of that sum in a sandbox is worth. -/
noncomputable def Try.pinned : Pinned := { name := "ytfikkpgigicepaa", sum := "7775963137aa9bc59c679f9ec42b4994b501f66f377cdc7ca2bb61b9f8e70375", checked := Try.checked }
namespace Rows
def none {H : Type} : Left H := { results := [], args := [] }

/-- 'tropicakeep.ComposeExpanded': WHATEVER THE INPUT: true; the input reads as it did. -/
def composeExpandedSpec : ChangeSpec := { name := "composeExpanded", fn := fun _ => fun
  | [d1, d2, d3] => { results := [.lit (.bool true)], args := [d1, d2, d3] }
  | _ => none }
def composeExpandedRow : OpenClaim := { program := "ytfikkpgigicepaa", sum := "7775963137aa9bc59c679f9ec42b4994b501f66f377cdc7ca2bb61b9f8e70375", func := "tropica/tropicakeep.ComposeExpanded", spec := "composeExpanded", unfollowed := true, recurses := true, plainKeys := false, apart := false }
def ComposeExpandedSaid : Prop := composeExpandedRow.holds Try.pinned (OpenSpec.ofChange composeExpandedSpec)

/-- ITS FALSE NEIGHBOUR: 'it returns false'. Refute it at one input. -/
def composeExpandedWrong : ChangeSpec := { name := "composeExpanded", fn := fun _ => fun
  | [d1, d2, d3] => { results := [.lit (.bool false)], args := [d1, d2, d3] }
  | _ => none }
def ComposeExpandedWrongFalsely : Prop := composeExpandedRow.holds Try.pinned (OpenSpec.ofChange composeExpandedWrong)

/-- 'tropicakeep.ComposeKeeps': WHATEVER THE INPUT: true; the input reads as it did. -/
def composeKeepsSpec : ChangeSpec := { name := "composeKeeps", fn := fun _ => fun
  | [d1, d2, d3, d4] => { results := [.lit (.bool true)], args := [d1, d2, d3, d4] }
  | _ => none }
def composeKeepsRow : OpenClaim := { program := "ytfikkpgigicepaa", sum := "7775963137aa9bc59c679f9ec42b4994b501f66f377cdc7ca2bb61b9f8e70375", func := "tropica/tropicakeep.ComposeKeeps", spec := "composeKeeps", unfollowed := true, recurses := true, plainKeys := false, apart := false }
def ComposeKeepsSaid : Prop := composeKeepsRow.holds Try.pinned (OpenSpec.ofChange composeKeepsSpec)

/-- ITS FALSE NEIGHBOUR: 'it returns false'. Refute it at one input. -/
def composeKeepsWrong : ChangeSpec := { name := "composeKeeps", fn := fun _ => fun
  | [d1, d2, d3, d4] => { results := [.lit (.bool false)], args := [d1, d2, d3, d4] }
  | _ => none }
def ComposeKeepsWrongFalsely : Prop := composeKeepsRow.holds Try.pinned (OpenSpec.ofChange composeKeepsWrong)

/-- 'tropicakeep.ComposeBetween': WHATEVER THE INPUT: true; the input reads as it did. -/
def composeBetweenSpec : ChangeSpec := { name := "composeBetween", fn := fun _ => fun
  | [d1, d2, d3, d4, d5] => { results := [.lit (.bool true)], args := [d1, d2, d3, d4, d5] }
  | _ => none }
def composeBetweenRow : OpenClaim := { program := "ytfikkpgigicepaa", sum := "7775963137aa9bc59c679f9ec42b4994b501f66f377cdc7ca2bb61b9f8e70375", func := "tropica/tropicakeep.ComposeBetween", spec := "composeBetween", unfollowed := true, recurses := true, plainKeys := false, apart := false }
def ComposeBetweenSaid : Prop := composeBetweenRow.holds Try.pinned (OpenSpec.ofChange composeBetweenSpec)

/-- ITS FALSE NEIGHBOUR: 'it returns false'. Refute it at one input. -/
def composeBetweenWrong : ChangeSpec := { name := "composeBetween", fn := fun _ => fun
  | [d1, d2, d3, d4, d5] => { results := [.lit (.bool false)], args := [d1, d2, d3, d4, d5] }
  | _ => none }
def ComposeBetweenWrongFalsely : Prop := composeBetweenRow.holds Try.pinned (OpenSpec.ofChange composeBetweenWrong)

/-- 'tropicakeep.ComposeGroups': WHATEVER THE INPUT: true; the input reads as it did. -/
def composeGroupsSpec : ChangeSpec := { name := "composeGroups", fn := fun _ => fun
  | [d1, d2, d3, d4, d5] => { results := [.lit (.bool true)], args := [d1, d2, d3, d4, d5] }
  | _ => none }
def composeGroupsRow : OpenClaim := { program := "ytfikkpgigicepaa", sum := "7775963137aa9bc59c679f9ec42b4994b501f66f377cdc7ca2bb61b9f8e70375", func := "tropica/tropicakeep.ComposeGroups", spec := "composeGroups", unfollowed := true, recurses := true, plainKeys := false, apart := false }
def ComposeGroupsSaid : Prop := composeGroupsRow.holds Try.pinned (OpenSpec.ofChange composeGroupsSpec)

/-- ITS FALSE NEIGHBOUR: 'it returns false'. Refute it at one input. -/
def composeGroupsWrong : ChangeSpec := { name := "composeGroups", fn := fun _ => fun
  | [d1, d2, d3, d4, d5] => { results := [.lit (.bool false)], args := [d1, d2, d3, d4, d5] }
  | _ => none }
def ComposeGroupsWrongFalsely : Prop := composeGroupsRow.holds Try.pinned (OpenSpec.ofChange composeGroupsWrong)

/-- 'tropicakeep.ComposeTurns': WHATEVER THE INPUT: true; the input reads as it did. -/
def composeTurnsSpec : ChangeSpec := { name := "composeTurns", fn := fun _ => fun
  | [d1, d2, d3, d4] => { results := [.lit (.bool true)], args := [d1, d2, d3, d4] }
  | _ => none }
def composeTurnsRow : OpenClaim := { program := "ytfikkpgigicepaa", sum := "7775963137aa9bc59c679f9ec42b4994b501f66f377cdc7ca2bb61b9f8e70375", func := "tropica/tropicakeep.ComposeTurns", spec := "composeTurns", unfollowed := true, recurses := true, plainKeys := false, apart := false }
def ComposeTurnsSaid : Prop := composeTurnsRow.holds Try.pinned (OpenSpec.ofChange composeTurnsSpec)

/-- ITS FALSE NEIGHBOUR: 'it returns false'. Refute it at one input. -/
def composeTurnsWrong : ChangeSpec := { name := "composeTurns", fn := fun _ => fun
  | [d1, d2, d3, d4] => { results := [.lit (.bool false)], args := [d1, d2, d3, d4] }
  | _ => none }
def ComposeTurnsWrongFalsely : Prop := composeTurnsRow.holds Try.pinned (OpenSpec.ofChange composeTurnsWrong)

/-- 'tropicakeep.ComposeOver': WHATEVER THE INPUT: true; the input reads as it did. -/
def composeOverSpec : ChangeSpec := { name := "composeOver", fn := fun _ => fun
  | [d1, d2, d3, d4, d5] => { results := [.lit (.bool true)], args := [d1, d2, d3, d4, d5] }
  | _ => none }
def composeOverRow : OpenClaim := { program := "ytfikkpgigicepaa", sum := "7775963137aa9bc59c679f9ec42b4994b501f66f377cdc7ca2bb61b9f8e70375", func := "tropica/tropicakeep.ComposeOver", spec := "composeOver", unfollowed := true, recurses := true, plainKeys := false, apart := false }
def ComposeOverSaid : Prop := composeOverRow.holds Try.pinned (OpenSpec.ofChange composeOverSpec)

/-- ITS FALSE NEIGHBOUR: 'it returns false'. Refute it at one input. -/
def composeOverWrong : ChangeSpec := { name := "composeOver", fn := fun _ => fun
  | [d1, d2, d3, d4, d5] => { results := [.lit (.bool false)], args := [d1, d2, d3, d4, d5] }
  | _ => none }
def ComposeOverWrongFalsely : Prop := composeOverRow.holds Try.pinned (OpenSpec.ofChange composeOverWrong)

/-- 'tropicakeep.ComposeOnce': WHATEVER THE INPUT: true; the input reads as it did. -/
def composeOnceSpec : ChangeSpec := { name := "composeOnce", fn := fun _ => fun
  | [d1, d2] => { results := [.lit (.bool true)], args := [d1, d2] }
  | _ => none }
def composeOnceRow : OpenClaim := { program := "ytfikkpgigicepaa", sum := "7775963137aa9bc59c679f9ec42b4994b501f66f377cdc7ca2bb61b9f8e70375", func := "tropica/tropicakeep.ComposeOnce", spec := "composeOnce", unfollowed := true, recurses := true, plainKeys := false, apart := false }
def ComposeOnceSaid : Prop := composeOnceRow.holds Try.pinned (OpenSpec.ofChange composeOnceSpec)

/-- ITS FALSE NEIGHBOUR: 'it returns false'. Refute it at one input. -/
def composeOnceWrong : ChangeSpec := { name := "composeOnce", fn := fun _ => fun
  | [d1, d2] => { results := [.lit (.bool false)], args := [d1, d2] }
  | _ => none }
def ComposeOnceWrongFalsely : Prop := composeOnceRow.holds Try.pinned (OpenSpec.ofChange composeOnceWrong)

/-- 'tropicakeep.ComposeLines': WHATEVER THE INPUT: true; the input reads as it did. -/
def composeLinesSpec : ChangeSpec := { name := "composeLines", fn := fun _ => fun
  | [d1, d2, d3] => { results := [.lit (.bool true)], args := [d1, d2, d3] }
  | _ => none }
def composeLinesRow : OpenClaim := { program := "ytfikkpgigicepaa", sum := "7775963137aa9bc59c679f9ec42b4994b501f66f377cdc7ca2bb61b9f8e70375", func := "tropica/tropicakeep.ComposeLines", spec := "composeLines", unfollowed := true, recurses := true, plainKeys := false, apart := false }
def ComposeLinesSaid : Prop := composeLinesRow.holds Try.pinned (OpenSpec.ofChange composeLinesSpec)

/-- ITS FALSE NEIGHBOUR: 'it returns false'. Refute it at one input. -/
def composeLinesWrong : ChangeSpec := { name := "composeLines", fn := fun _ => fun
  | [d1, d2, d3] => { results := [.lit (.bool false)], args := [d1, d2, d3] }
  | _ => none }
def ComposeLinesWrongFalsely : Prop := composeLinesRow.holds Try.pinned (OpenSpec.ofChange composeLinesWrong)

/-- 'tropicakeep.StreamCuts': WHATEVER THE INPUT: true; the input reads as it did. -/
def streamCutsSpec : ChangeSpec := { name := "streamCuts", fn := fun _ => fun
  | [d1, d2, d3] => { results := [.lit (.bool true)], args := [d1, d2, d3] }
  | _ => none }
def streamCutsRow : OpenClaim := { program := "ytfikkpgigicepaa", sum := "7775963137aa9bc59c679f9ec42b4994b501f66f377cdc7ca2bb61b9f8e70375", func := "tropica/tropicakeep.StreamCuts", spec := "streamCuts", unfollowed := true, recurses := true, plainKeys := false, apart := false }
def StreamCutsSaid : Prop := streamCutsRow.holds Try.pinned (OpenSpec.ofChange streamCutsSpec)

/-- ITS FALSE NEIGHBOUR: 'it returns false'. Refute it at one input. -/
def streamCutsWrong : ChangeSpec := { name := "streamCuts", fn := fun _ => fun
  | [d1, d2, d3] => { results := [.lit (.bool false)], args := [d1, d2, d3] }
  | _ => none }
def StreamCutsWrongFalsely : Prop := streamCutsRow.holds Try.pinned (OpenSpec.ofChange streamCutsWrong)

/-- 'tropicakeep.StreamFirst': WHATEVER THE INPUT: true; the input reads as it did. -/
def streamFirstSpec : ChangeSpec := { name := "streamFirst", fn := fun _ => fun
  | [d1, d2, d3] => { results := [.lit (.bool true)], args := [d1, d2, d3] }
  | _ => none }
def streamFirstRow : OpenClaim := { program := "ytfikkpgigicepaa", sum := "7775963137aa9bc59c679f9ec42b4994b501f66f377cdc7ca2bb61b9f8e70375", func := "tropica/tropicakeep.StreamFirst", spec := "streamFirst", unfollowed := true, recurses := true, plainKeys := false, apart := false }
def StreamFirstSaid : Prop := streamFirstRow.holds Try.pinned (OpenSpec.ofChange streamFirstSpec)

/-- ITS FALSE NEIGHBOUR: 'it returns false'. Refute it at one input. -/
def streamFirstWrong : ChangeSpec := { name := "streamFirst", fn := fun _ => fun
  | [d1, d2, d3] => { results := [.lit (.bool false)], args := [d1, d2, d3] }
  | _ => none }
def StreamFirstWrongFalsely : Prop := streamFirstRow.holds Try.pinned (OpenSpec.ofChange streamFirstWrong)

/-- 'tropicakeep.StreamCheapest': WHATEVER THE INPUT: true; the input reads as it did. -/
def streamCheapestSpec : ChangeSpec := { name := "streamCheapest", fn := fun _ => fun
  | [d1, d2] => { results := [.lit (.bool true)], args := [d1, d2] }
  | _ => none }
def streamCheapestRow : OpenClaim := { program := "ytfikkpgigicepaa", sum := "7775963137aa9bc59c679f9ec42b4994b501f66f377cdc7ca2bb61b9f8e70375", func := "tropica/tropicakeep.StreamCheapest", spec := "streamCheapest", unfollowed := true, recurses := true, plainKeys := false, apart := false }
def StreamCheapestSaid : Prop := streamCheapestRow.holds Try.pinned (OpenSpec.ofChange streamCheapestSpec)

/-- ITS FALSE NEIGHBOUR: 'it returns false'. Refute it at one input. -/
def streamCheapestWrong : ChangeSpec := { name := "streamCheapest", fn := fun _ => fun
  | [d1, d2] => { results := [.lit (.bool false)], args := [d1, d2] }
  | _ => none }
def StreamCheapestWrongFalsely : Prop := streamCheapestRow.holds Try.pinned (OpenSpec.ofChange streamCheapestWrong)

/-- 'tropicakeep.PackedFixed': WHATEVER THE INPUT: true; the input reads as it did. -/
def packedFixedSpec : ChangeSpec := { name := "packedFixed", fn := fun _ => fun
  | [d] => { results := [.lit (.bool true)], args := [d] }
  | _ => none }
def packedFixedRow : OpenClaim := { program := "ytfikkpgigicepaa", sum := "7775963137aa9bc59c679f9ec42b4994b501f66f377cdc7ca2bb61b9f8e70375", func := "tropica/tropicakeep.PackedFixed", spec := "packedFixed", unfollowed := true, recurses := true, plainKeys := false, apart := false }
def PackedFixedSaid : Prop := packedFixedRow.holds Try.pinned (OpenSpec.ofChange packedFixedSpec)

/-- ITS FALSE NEIGHBOUR: 'it returns false'. Refute it at one input. -/
def packedFixedWrong : ChangeSpec := { name := "packedFixed", fn := fun _ => fun
  | [d] => { results := [.lit (.bool false)], args := [d] }
  | _ => none }
def PackedFixedWrongFalsely : Prop := packedFixedRow.holds Try.pinned (OpenSpec.ofChange packedFixedWrong)

/- THE SECOND FORM. 'bulk': how many values and letters a reading holds, each counted each time it is reached (what is shared counts as often as it is met; a slice's spare places count too). A statement '..UptoSaid' is the law's where the arguments, and the package variables that the reading takes, are together of bulk at most 1048576: NARROWER than '..Said'. Prove '..Said' where nothing that the law and all that it calls make is longer than what came in: it says more and counts as full. Else prove '..UptoSaid'. A law counts once. -/
mutual
def uptoBulk {H : Type} : DataW H → Nat
  | .lit (.string bytes) => bytes.length + 1
  | .lit _ => 1
  | .nil => 1
  | .ptr d => uptoBulk d + 1
  | .slice elems spare => uptoBulkAll elems + uptoBulkAll spare + 1
  | .agg parts => uptoBulkAll parts + 1
  | .iface _ d => uptoBulk d + 1
  | .map entries => uptoBulkEntries entries + 1
  | .held _ => 1
def uptoBulkAll {H : Type} : List (DataW H) → Nat
  | [] => 0
  | d :: r => uptoBulk d + uptoBulkAll r
def uptoBulkEntries {H : Type} : List (Lit × DataW H) → Nat
  | [] => 0
  | x :: r => uptoBulkEntry x + uptoBulkEntries r
def uptoBulkEntry {H : Type} : Lit × DataW H → Nat
  | (.string bytes, d) => bytes.length + uptoBulk d + 1
  | (_, d) => uptoBulk d + 1
 end
def uptoSmall : (H : Type) → List (DataW H) → Bool := fun _ ds => decide (uptoBulkAll ds ≤ 1048576)
def OpenSpec.upto (s : _root_.Go.ChangeSpec) : _root_.Go.OpenSpec := { _root_.Go.OpenSpec.ofChange s with cond := some uptoSmall }

/-- 'tropicakeep.ComposeExpanded', WHERE WHAT IT READS IS OF BULK AT MOST 1048576: true; the input reads as it did. -/
def composeExpandedUptoRow : OpenClaim := { program := "ytfikkpgigicepaa", sum := "7775963137aa9bc59c679f9ec42b4994b501f66f377cdc7ca2bb61b9f8e70375", func := "tropica/tropicakeep.ComposeExpanded", spec := "composeExpanded", unfollowed := true, recurses := true, plainKeys := false, apart := false, narrowed := true }
def ComposeExpandedUptoSaid : Prop := composeExpandedUptoRow.holds Try.pinned (OpenSpec.upto composeExpandedSpec)

/-- 'tropicakeep.ComposeKeeps', WHERE WHAT IT READS IS OF BULK AT MOST 1048576: true; the input reads as it did. -/
def composeKeepsUptoRow : OpenClaim := { program := "ytfikkpgigicepaa", sum := "7775963137aa9bc59c679f9ec42b4994b501f66f377cdc7ca2bb61b9f8e70375", func := "tropica/tropicakeep.ComposeKeeps", spec := "composeKeeps", unfollowed := true, recurses := true, plainKeys := false, apart := false, narrowed := true }
def ComposeKeepsUptoSaid : Prop := composeKeepsUptoRow.holds Try.pinned (OpenSpec.upto composeKeepsSpec)

/-- 'tropicakeep.ComposeBetween', WHERE WHAT IT READS IS OF BULK AT MOST 1048576: true; the input reads as it did. -/
def composeBetweenUptoRow : OpenClaim := { program := "ytfikkpgigicepaa", sum := "7775963137aa9bc59c679f9ec42b4994b501f66f377cdc7ca2bb61b9f8e70375", func := "tropica/tropicakeep.ComposeBetween", spec := "composeBetween", unfollowed := true, recurses := true, plainKeys := false, apart := false, narrowed := true }
def ComposeBetweenUptoSaid : Prop := composeBetweenUptoRow.holds Try.pinned (OpenSpec.upto composeBetweenSpec)

/-- 'tropicakeep.ComposeGroups', WHERE WHAT IT READS IS OF BULK AT MOST 1048576: true; the input reads as it did. -/
def composeGroupsUptoRow : OpenClaim := { program := "ytfikkpgigicepaa", sum := "7775963137aa9bc59c679f9ec42b4994b501f66f377cdc7ca2bb61b9f8e70375", func := "tropica/tropicakeep.ComposeGroups", spec := "composeGroups", unfollowed := true, recurses := true, plainKeys := false, apart := false, narrowed := true }
def ComposeGroupsUptoSaid : Prop := composeGroupsUptoRow.holds Try.pinned (OpenSpec.upto composeGroupsSpec)

/-- 'tropicakeep.ComposeTurns', WHERE WHAT IT READS IS OF BULK AT MOST 1048576: true; the input reads as it did. -/
def composeTurnsUptoRow : OpenClaim := { program := "ytfikkpgigicepaa", sum := "7775963137aa9bc59c679f9ec42b4994b501f66f377cdc7ca2bb61b9f8e70375", func := "tropica/tropicakeep.ComposeTurns", spec := "composeTurns", unfollowed := true, recurses := true, plainKeys := false, apart := false, narrowed := true }
def ComposeTurnsUptoSaid : Prop := composeTurnsUptoRow.holds Try.pinned (OpenSpec.upto composeTurnsSpec)

/-- 'tropicakeep.ComposeOver', WHERE WHAT IT READS IS OF BULK AT MOST 1048576: true; the input reads as it did. -/
def composeOverUptoRow : OpenClaim := { program := "ytfikkpgigicepaa", sum := "7775963137aa9bc59c679f9ec42b4994b501f66f377cdc7ca2bb61b9f8e70375", func := "tropica/tropicakeep.ComposeOver", spec := "composeOver", unfollowed := true, recurses := true, plainKeys := false, apart := false, narrowed := true }
def ComposeOverUptoSaid : Prop := composeOverUptoRow.holds Try.pinned (OpenSpec.upto composeOverSpec)

/-- 'tropicakeep.ComposeOnce', WHERE WHAT IT READS IS OF BULK AT MOST 1048576: true; the input reads as it did. -/
def composeOnceUptoRow : OpenClaim := { program := "ytfikkpgigicepaa", sum := "7775963137aa9bc59c679f9ec42b4994b501f66f377cdc7ca2bb61b9f8e70375", func := "tropica/tropicakeep.ComposeOnce", spec := "composeOnce", unfollowed := true, recurses := true, plainKeys := false, apart := false, narrowed := true }
def ComposeOnceUptoSaid : Prop := composeOnceUptoRow.holds Try.pinned (OpenSpec.upto composeOnceSpec)

/-- 'tropicakeep.ComposeLines', WHERE WHAT IT READS IS OF BULK AT MOST 1048576: true; the input reads as it did. -/
def composeLinesUptoRow : OpenClaim := { program := "ytfikkpgigicepaa", sum := "7775963137aa9bc59c679f9ec42b4994b501f66f377cdc7ca2bb61b9f8e70375", func := "tropica/tropicakeep.ComposeLines", spec := "composeLines", unfollowed := true, recurses := true, plainKeys := false, apart := false, narrowed := true }
def ComposeLinesUptoSaid : Prop := composeLinesUptoRow.holds Try.pinned (OpenSpec.upto composeLinesSpec)

/-- 'tropicakeep.StreamCuts', WHERE WHAT IT READS IS OF BULK AT MOST 1048576: true; the input reads as it did. -/
def streamCutsUptoRow : OpenClaim := { program := "ytfikkpgigicepaa", sum := "7775963137aa9bc59c679f9ec42b4994b501f66f377cdc7ca2bb61b9f8e70375", func := "tropica/tropicakeep.StreamCuts", spec := "streamCuts", unfollowed := true, recurses := true, plainKeys := false, apart := false, narrowed := true }
def StreamCutsUptoSaid : Prop := streamCutsUptoRow.holds Try.pinned (OpenSpec.upto streamCutsSpec)

/-- 'tropicakeep.StreamFirst', WHERE WHAT IT READS IS OF BULK AT MOST 1048576: true; the input reads as it did. -/
def streamFirstUptoRow : OpenClaim := { program := "ytfikkpgigicepaa", sum := "7775963137aa9bc59c679f9ec42b4994b501f66f377cdc7ca2bb61b9f8e70375", func := "tropica/tropicakeep.StreamFirst", spec := "streamFirst", unfollowed := true, recurses := true, plainKeys := false, apart := false, narrowed := true }
def StreamFirstUptoSaid : Prop := streamFirstUptoRow.holds Try.pinned (OpenSpec.upto streamFirstSpec)

/-- 'tropicakeep.StreamCheapest', WHERE WHAT IT READS IS OF BULK AT MOST 1048576: true; the input reads as it did. -/
def streamCheapestUptoRow : OpenClaim := { program := "ytfikkpgigicepaa", sum := "7775963137aa9bc59c679f9ec42b4994b501f66f377cdc7ca2bb61b9f8e70375", func := "tropica/tropicakeep.StreamCheapest", spec := "streamCheapest", unfollowed := true, recurses := true, plainKeys := false, apart := false, narrowed := true }
def StreamCheapestUptoSaid : Prop := streamCheapestUptoRow.holds Try.pinned (OpenSpec.upto streamCheapestSpec)

/-- 'tropicakeep.PackedFixed', WHERE WHAT IT READS IS OF BULK AT MOST 1048576: true; the input reads as it did. -/
def packedFixedUptoRow : OpenClaim := { program := "ytfikkpgigicepaa", sum := "7775963137aa9bc59c679f9ec42b4994b501f66f377cdc7ca2bb61b9f8e70375", func := "tropica/tropicakeep.PackedFixed", spec := "packedFixed", unfollowed := true, recurses := true, plainKeys := false, apart := false, narrowed := true }
def PackedFixedUptoSaid : Prop := packedFixedUptoRow.holds Try.pinned (OpenSpec.upto packedFixedSpec)

end Rows
end Go.Proofs.Ytfikkpgigicepaa
