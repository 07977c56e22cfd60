/-
  No cell of these rows narrows 'for every input' (looked for: loops, veiled, ifaces, maps, wideKeys, modest, calm, conditions, laid).
  DERIVED. THE GIVEN ROWS OF THIS SEAT. 12 by the template 'for every input the law returns true; each argument reads behind the call as it read before'; 0 by the template 'total and deterministic' (their statements: YtndajklppipckaaTotals.lean).
  GIVEN WITH THE SEED: the statements are not yours to turn. If you find one false, say at which input.
  Laid BY PROGRAM, IN A SANDBOX (cutbox-rows.mjs): the forced cells as the released guide's own fill.sh prints them over the translation fd298945f2e9d430… (all of the seat's roots in one cut). By AI agents, Wed Nov 11 2026. No macro, syntax, notation, axiom, sorry.
-/
import Derived.Test.YtndajklppipckaaChecked
import GoSem.Claim
import GoSem.ClaimJoined
import GoSem.ClaimMapViews
import Derived.JoinedTies
import Derived.KernelRfl
namespace Go.Proofs.Ytndajklppipckaa
/- THE CELL 'sum', in the pinned program and in every row, IS THE sha256 OF THE DUMP (.gsa) THAT YtndajklppipckaaProg.lean LOADS. Nothing in Lean hashes anything: it is a label: what it is worth is what the hold of that sum in a sandbox is worth. -/
noncomputable def Try.pinned : Pinned := { name := "ytndajklppipckaa", sum := "fd298945f2e9d4309c1ab286691a14529660918e4c244c141a83f73c329720fe", checked := Try.checked }
namespace Rows
def none {H : Type} : Left H := { results := [], args := [] }

/-- 'tropicakeep.PackedOne': WHATEVER THE INPUT: true; the input reads as it did. -/
def packedOneSpec : ChangeSpec := { name := "packedOne", fn := fun _ => fun
  | [d1, d2, d3] => { results := [.lit (.bool true)], args := [d1, d2, d3] }
  | _ => none }
def packedOneRow : OpenClaim := { program := "ytndajklppipckaa", sum := "fd298945f2e9d4309c1ab286691a14529660918e4c244c141a83f73c329720fe", func := "tropica/tropicakeep.PackedOne", spec := "packedOne", unfollowed := true, recurses := true, plainKeys := false, apart := false }
def PackedOneSaid : Prop := packedOneRow.holds Try.pinned (OpenSpec.ofChange packedOneSpec)

/-- ITS FALSE NEIGHBOUR: 'it returns false'. Refute it at one input. -/
def packedOneWrong : ChangeSpec := { name := "packedOne", fn := fun _ => fun
  | [d1, d2, d3] => { results := [.lit (.bool false)], args := [d1, d2, d3] }
  | _ => none }
def PackedOneWrongFalsely : Prop := packedOneRow.holds Try.pinned (OpenSpec.ofChange packedOneWrong)

/-- 'tropicakeep.PackedFixed': WHATEVER THE INPUT: true; the input reads as it did. -/
def packedFixedSpec : ChangeSpec := { name := "packedFixed", fn := fun _ => fun
  | [d] => { results := [.lit (.bool true)], args := [d] }
  | _ => none }
def packedFixedRow : OpenClaim := { program := "ytndajklppipckaa", sum := "fd298945f2e9d4309c1ab286691a14529660918e4c244c141a83f73c329720fe", func := "tropica/tropicakeep.PackedFixed", spec := "packedFixed", unfollowed := true, recurses := true, plainKeys := false, apart := false }
def PackedFixedSaid : Prop := packedFixedRow.holds Try.pinned (OpenSpec.ofChange packedFixedSpec)

/-- ITS FALSE NEIGHBOUR: 'it returns false'. Refute it at one input. -/
def packedFixedWrong : ChangeSpec := { name := "packedFixed", fn := fun _ => fun
  | [d] => { results := [.lit (.bool false)], args := [d] }
  | _ => none }
def PackedFixedWrongFalsely : Prop := packedFixedRow.holds Try.pinned (OpenSpec.ofChange packedFixedWrong)

/-- 'tropicakeep.NamesTurn': WHATEVER THE INPUT: true; the input reads as it did. -/
def namesTurnSpec : ChangeSpec := { name := "namesTurn", fn := fun _ => fun
  | [d1, d2, d3, d4] => { results := [.lit (.bool true)], args := [d1, d2, d3, d4] }
  | _ => none }
def namesTurnRow : OpenClaim := { program := "ytndajklppipckaa", sum := "fd298945f2e9d4309c1ab286691a14529660918e4c244c141a83f73c329720fe", func := "tropica/tropicakeep.NamesTurn", spec := "namesTurn", inPlace := ["sync/atomic.LoadUint32", "(*internal/sync.Mutex).Lock", "internal/race.Disable", "sync/atomic.CompareAndSwapInt32", "internal/race.Enable", "internal/race.Acquire", "(*internal/sync.Mutex).lockSlow", "internal/sync.runtime_canSpin", "internal/sync.runtime_doSpin", "internal/sync.throw", "internal/sync.runtime_nanotime", "internal/sync.runtime_SemacquireMutex", "sync/atomic.AddInt32", "(*internal/sync.Mutex).Unlock", "internal/race.ReleaseMerge", "(*internal/sync.Mutex).unlockSlow", "internal/sync.fatal", "internal/sync.runtime_Semrelease", "sync/atomic.StoreUint32"], unfollowed := true, recurses := true, plainKeys := false, apart := false }
def NamesTurnSaid : Prop := namesTurnRow.holds Try.pinned (OpenSpec.ofChange namesTurnSpec)

/-- ITS FALSE NEIGHBOUR: 'it returns false'. Refute it at one input. -/
def namesTurnWrong : ChangeSpec := { name := "namesTurn", fn := fun _ => fun
  | [d1, d2, d3, d4] => { results := [.lit (.bool false)], args := [d1, d2, d3, d4] }
  | _ => none }
def NamesTurnWrongFalsely : Prop := namesTurnRow.holds Try.pinned (OpenSpec.ofChange namesTurnWrong)

/-- 'tropicakeep.BestLeast': WHATEVER THE INPUT: true; the input reads as it did. -/
def bestLeastSpec : ChangeSpec := { name := "bestLeast", fn := fun _ => fun
  | [d1, d2] => { results := [.lit (.bool true)], args := [d1, d2] }
  | _ => none }
def bestLeastRow : OpenClaim := { program := "ytndajklppipckaa", sum := "fd298945f2e9d4309c1ab286691a14529660918e4c244c141a83f73c329720fe", func := "tropica/tropicakeep.BestLeast", spec := "bestLeast", unfollowed := true, recurses := true, plainKeys := false, apart := false }
def BestLeastSaid : Prop := bestLeastRow.holds Try.pinned (OpenSpec.ofChange bestLeastSpec)

/-- ITS FALSE NEIGHBOUR: 'it returns false'. Refute it at one input. -/
def bestLeastWrong : ChangeSpec := { name := "bestLeast", fn := fun _ => fun
  | [d1, d2] => { results := [.lit (.bool false)], args := [d1, d2] }
  | _ => none }
def BestLeastWrongFalsely : Prop := bestLeastRow.holds Try.pinned (OpenSpec.ofChange bestLeastWrong)

/-- 'tropicakeep.BestPays': WHATEVER THE INPUT: true; the input reads as it did. -/
def bestPaysSpec : ChangeSpec := { name := "bestPays", fn := fun _ => fun
  | [d] => { results := [.lit (.bool true)], args := [d] }
  | _ => none }
def bestPaysRow : OpenClaim := { program := "ytndajklppipckaa", sum := "fd298945f2e9d4309c1ab286691a14529660918e4c244c141a83f73c329720fe", func := "tropica/tropicakeep.BestPays", spec := "bestPays", unfollowed := true, recurses := true, plainKeys := false, apart := false }
def BestPaysSaid : Prop := bestPaysRow.holds Try.pinned (OpenSpec.ofChange bestPaysSpec)

/-- ITS FALSE NEIGHBOUR: 'it returns false'. Refute it at one input. -/
def bestPaysWrong : ChangeSpec := { name := "bestPays", fn := fun _ => fun
  | [d] => { results := [.lit (.bool false)], args := [d] }
  | _ => none }
def BestPaysWrongFalsely : Prop := bestPaysRow.holds Try.pinned (OpenSpec.ofChange bestPaysWrong)

/-- 'tropicakeep.CostsRise': WHATEVER THE INPUT: true; the input reads as it did. -/
def costsRiseSpec : ChangeSpec := { name := "costsRise", fn := fun _ => fun
  | [d1, d2] => { results := [.lit (.bool true)], args := [d1, d2] }
  | _ => none }
def costsRiseRow : OpenClaim := { program := "ytndajklppipckaa", sum := "fd298945f2e9d4309c1ab286691a14529660918e4c244c141a83f73c329720fe", func := "tropica/tropicakeep.CostsRise", spec := "costsRise", unfollowed := true, recurses := true, plainKeys := false, apart := false }
def CostsRiseSaid : Prop := costsRiseRow.holds Try.pinned (OpenSpec.ofChange costsRiseSpec)

/-- ITS FALSE NEIGHBOUR: 'it returns false'. Refute it at one input. -/
def costsRiseWrong : ChangeSpec := { name := "costsRise", fn := fun _ => fun
  | [d1, d2] => { results := [.lit (.bool false)], args := [d1, d2] }
  | _ => none }
def CostsRiseWrongFalsely : Prop := costsRiseRow.holds Try.pinned (OpenSpec.ofChange costsRiseWrong)

/-- 'tropicakeep.CostsMerge': WHATEVER THE INPUT: true; the input reads as it did. -/
def costsMergeSpec : ChangeSpec := { name := "costsMerge", fn := fun _ => fun
  | [d1, d2, d3] => { results := [.lit (.bool true)], args := [d1, d2, d3] }
  | _ => none }
def costsMergeRow : OpenClaim := { program := "ytndajklppipckaa", sum := "fd298945f2e9d4309c1ab286691a14529660918e4c244c141a83f73c329720fe", func := "tropica/tropicakeep.CostsMerge", spec := "costsMerge", unfollowed := true, recurses := true, plainKeys := false, apart := false }
def CostsMergeSaid : Prop := costsMergeRow.holds Try.pinned (OpenSpec.ofChange costsMergeSpec)

/-- ITS FALSE NEIGHBOUR: 'it returns false'. Refute it at one input. -/
def costsMergeWrong : ChangeSpec := { name := "costsMerge", fn := fun _ => fun
  | [d1, d2, d3] => { results := [.lit (.bool false)], args := [d1, d2, d3] }
  | _ => none }
def CostsMergeWrongFalsely : Prop := costsMergeRow.holds Try.pinned (OpenSpec.ofChange costsMergeWrong)

/-- 'tropicakeep.PushZero': WHATEVER THE INPUT: true; the input reads as it did. -/
def pushZeroSpec : ChangeSpec := { name := "pushZero", fn := fun _ => fun
  | [d] => { results := [.lit (.bool true)], args := [d] }
  | _ => none }
def pushZeroRow : OpenClaim := { program := "ytndajklppipckaa", sum := "fd298945f2e9d4309c1ab286691a14529660918e4c244c141a83f73c329720fe", func := "tropica/tropicakeep.PushZero", spec := "pushZero", unfollowed := true, recurses := true, plainKeys := false, apart := false }
def PushZeroSaid : Prop := pushZeroRow.holds Try.pinned (OpenSpec.ofChange pushZeroSpec)

/-- ITS FALSE NEIGHBOUR: 'it returns false'. Refute it at one input. -/
def pushZeroWrong : ChangeSpec := { name := "pushZero", fn := fun _ => fun
  | [d] => { results := [.lit (.bool false)], args := [d] }
  | _ => none }
def PushZeroWrongFalsely : Prop := pushZeroRow.holds Try.pinned (OpenSpec.ofChange pushZeroWrong)

/-- 'tropicakeep.PushKeeps': WHATEVER THE INPUT: true; the input reads as it did. -/
def pushKeepsSpec : ChangeSpec := { name := "pushKeeps", fn := fun _ => fun
  | [d1, d2, d3] => { results := [.lit (.bool true)], args := [d1, d2, d3] }
  | _ => none }
def pushKeepsRow : OpenClaim := { program := "ytndajklppipckaa", sum := "fd298945f2e9d4309c1ab286691a14529660918e4c244c141a83f73c329720fe", func := "tropica/tropicakeep.PushKeeps", spec := "pushKeeps", unfollowed := true, recurses := true, plainKeys := false, apart := false }
def PushKeepsSaid : Prop := pushKeepsRow.holds Try.pinned (OpenSpec.ofChange pushKeepsSpec)

/-- ITS FALSE NEIGHBOUR: 'it returns false'. Refute it at one input. -/
def pushKeepsWrong : ChangeSpec := { name := "pushKeeps", fn := fun _ => fun
  | [d1, d2, d3] => { results := [.lit (.bool false)], args := [d1, d2, d3] }
  | _ => none }
def PushKeepsWrongFalsely : Prop := pushKeepsRow.holds Try.pinned (OpenSpec.ofChange pushKeepsWrong)

/-- 'tropicakeep.PushPaths': WHATEVER THE INPUT: true; the input reads as it did. -/
def pushPathsSpec : ChangeSpec := { name := "pushPaths", fn := fun _ => fun
  | [d] => { results := [.lit (.bool true)], args := [d] }
  | _ => none }
def pushPathsRow : OpenClaim := { program := "ytndajklppipckaa", sum := "fd298945f2e9d4309c1ab286691a14529660918e4c244c141a83f73c329720fe", func := "tropica/tropicakeep.PushPaths", spec := "pushPaths", unfollowed := true, recurses := true, plainKeys := false, apart := false }
def PushPathsSaid : Prop := pushPathsRow.holds Try.pinned (OpenSpec.ofChange pushPathsSpec)

/-- ITS FALSE NEIGHBOUR: 'it returns false'. Refute it at one input. -/
def pushPathsWrong : ChangeSpec := { name := "pushPaths", fn := fun _ => fun
  | [d] => { results := [.lit (.bool false)], args := [d] }
  | _ => none }
def PushPathsWrongFalsely : Prop := pushPathsRow.holds Try.pinned (OpenSpec.ofChange pushPathsWrong)

/-- 'tropicakeep.StreamCuts': WHATEVER THE INPUT: true; the input reads as it did. -/
def streamCutsSpec : ChangeSpec := { name := "streamCuts", fn := fun _ => fun
  | [d1, d2, d3] => { results := [.lit (.bool true)], args := [d1, d2, d3] }
  | _ => none }
def streamCutsRow : OpenClaim := { program := "ytndajklppipckaa", sum := "fd298945f2e9d4309c1ab286691a14529660918e4c244c141a83f73c329720fe", func := "tropica/tropicakeep.StreamCuts", spec := "streamCuts", unfollowed := true, recurses := true, plainKeys := false, apart := false }
def StreamCutsSaid : Prop := streamCutsRow.holds Try.pinned (OpenSpec.ofChange streamCutsSpec)

/-- ITS FALSE NEIGHBOUR: 'it returns false'. Refute it at one input. -/
def streamCutsWrong : ChangeSpec := { name := "streamCuts", fn := fun _ => fun
  | [d1, d2, d3] => { results := [.lit (.bool false)], args := [d1, d2, d3] }
  | _ => none }
def StreamCutsWrongFalsely : Prop := streamCutsRow.holds Try.pinned (OpenSpec.ofChange streamCutsWrong)

/-- 'tropicakeep.ComposeExpanded': WHATEVER THE INPUT: true; the input reads as it did. -/
def composeExpandedSpec : ChangeSpec := { name := "composeExpanded", fn := fun _ => fun
  | [d1, d2, d3] => { results := [.lit (.bool true)], args := [d1, d2, d3] }
  | _ => none }
def composeExpandedRow : OpenClaim := { program := "ytndajklppipckaa", sum := "fd298945f2e9d4309c1ab286691a14529660918e4c244c141a83f73c329720fe", func := "tropica/tropicakeep.ComposeExpanded", spec := "composeExpanded", unfollowed := true, recurses := true, plainKeys := false, apart := false }
def ComposeExpandedSaid : Prop := composeExpandedRow.holds Try.pinned (OpenSpec.ofChange composeExpandedSpec)

/-- ITS FALSE NEIGHBOUR: 'it returns false'. Refute it at one input. -/
def composeExpandedWrong : ChangeSpec := { name := "composeExpanded", fn := fun _ => fun
  | [d1, d2, d3] => { results := [.lit (.bool false)], args := [d1, d2, d3] }
  | _ => none }
def ComposeExpandedWrongFalsely : Prop := composeExpandedRow.holds Try.pinned (OpenSpec.ofChange composeExpandedWrong)

/- THE SECOND FORM. 'bulk': how many values and letters a reading holds, each counted each time it is reached (what is shared counts as often as it is met; a slice's spare places count too). A statement '..UptoSaid' is the law's where the arguments, and the package variables that the reading takes, are together of bulk at most 1048576: NARROWER than '..Said'. Prove '..Said' where nothing that the law and all that it calls make is longer than what came in: it says more and counts as full. Else prove '..UptoSaid'. A law counts once. -/
mutual
def uptoBulk {H : Type} : DataW H → Nat
  | .lit (.string bytes) => bytes.length + 1
  | .lit _ => 1
  | .nil => 1
  | .ptr d => uptoBulk d + 1
  | .slice elems spare => uptoBulkAll elems + uptoBulkAll spare + 1
  | .agg parts => uptoBulkAll parts + 1
  | .iface _ d => uptoBulk d + 1
  | .map entries => uptoBulkEntries entries + 1
  | .held _ => 1
def uptoBulkAll {H : Type} : List (DataW H) → Nat
  | [] => 0
  | d :: r => uptoBulk d + uptoBulkAll r
def uptoBulkEntries {H : Type} : List (Lit × DataW H) → Nat
  | [] => 0
  | x :: r => uptoBulkEntry x + uptoBulkEntries r
def uptoBulkEntry {H : Type} : Lit × DataW H → Nat
  | (.string bytes, d) => bytes.length + uptoBulk d + 1
  | (_, d) => uptoBulk d + 1
 end
def uptoSmall : (H : Type) → List (DataW H) → Bool := fun _ ds => decide (uptoBulkAll ds ≤ 1048576)
def OpenSpec.upto (s : _root_.Go.ChangeSpec) : _root_.Go.OpenSpec := { _root_.Go.OpenSpec.ofChange s with cond := some uptoSmall }

/-- 'tropicakeep.PackedOne', WHERE WHAT IT READS IS OF BULK AT MOST 1048576: true; the input reads as it did. -/
def packedOneUptoRow : OpenClaim := { program := "ytndajklppipckaa", sum := "fd298945f2e9d4309c1ab286691a14529660918e4c244c141a83f73c329720fe", func := "tropica/tropicakeep.PackedOne", spec := "packedOne", unfollowed := true, recurses := true, plainKeys := false, apart := false, narrowed := true }
def PackedOneUptoSaid : Prop := packedOneUptoRow.holds Try.pinned (OpenSpec.upto packedOneSpec)

/-- 'tropicakeep.PackedFixed', WHERE WHAT IT READS IS OF BULK AT MOST 1048576: true; the input reads as it did. -/
def packedFixedUptoRow : OpenClaim := { program := "ytndajklppipckaa", sum := "fd298945f2e9d4309c1ab286691a14529660918e4c244c141a83f73c329720fe", func := "tropica/tropicakeep.PackedFixed", spec := "packedFixed", unfollowed := true, recurses := true, plainKeys := false, apart := false, narrowed := true }
def PackedFixedUptoSaid : Prop := packedFixedUptoRow.holds Try.pinned (OpenSpec.upto packedFixedSpec)

/-- 'tropicakeep.NamesTurn', WHERE WHAT IT READS IS OF BULK AT MOST 1048576: true; the input reads as it did. -/
def namesTurnUptoRow : OpenClaim := { program := "ytndajklppipckaa", sum := "fd298945f2e9d4309c1ab286691a14529660918e4c244c141a83f73c329720fe", func := "tropica/tropicakeep.NamesTurn", spec := "namesTurn", inPlace := ["sync/atomic.LoadUint32", "(*internal/sync.Mutex).Lock", "internal/race.Disable", "sync/atomic.CompareAndSwapInt32", "internal/race.Enable", "internal/race.Acquire", "(*internal/sync.Mutex).lockSlow", "internal/sync.runtime_canSpin", "internal/sync.runtime_doSpin", "internal/sync.throw", "internal/sync.runtime_nanotime", "internal/sync.runtime_SemacquireMutex", "sync/atomic.AddInt32", "(*internal/sync.Mutex).Unlock", "internal/race.ReleaseMerge", "(*internal/sync.Mutex).unlockSlow", "internal/sync.fatal", "internal/sync.runtime_Semrelease", "sync/atomic.StoreUint32"], unfollowed := true, recurses := true, plainKeys := false, apart := false, narrowed := true }
def NamesTurnUptoSaid : Prop := namesTurnUptoRow.holds Try.pinned (OpenSpec.upto namesTurnSpec)

/-- 'tropicakeep.BestLeast', WHERE WHAT IT READS IS OF BULK AT MOST 1048576: true; the input reads as it did. -/
def bestLeastUptoRow : OpenClaim := { program := "ytndajklppipckaa", sum := "fd298945f2e9d4309c1ab286691a14529660918e4c244c141a83f73c329720fe", func := "tropica/tropicakeep.BestLeast", spec := "bestLeast", unfollowed := true, recurses := true, plainKeys := false, apart := false, narrowed := true }
def BestLeastUptoSaid : Prop := bestLeastUptoRow.holds Try.pinned (OpenSpec.upto bestLeastSpec)

/-- 'tropicakeep.BestPays', WHERE WHAT IT READS IS OF BULK AT MOST 1048576: true; the input reads as it did. -/
def bestPaysUptoRow : OpenClaim := { program := "ytndajklppipckaa", sum := "fd298945f2e9d4309c1ab286691a14529660918e4c244c141a83f73c329720fe", func := "tropica/tropicakeep.BestPays", spec := "bestPays", unfollowed := true, recurses := true, plainKeys := false, apart := false, narrowed := true }
def BestPaysUptoSaid : Prop := bestPaysUptoRow.holds Try.pinned (OpenSpec.upto bestPaysSpec)

/-- 'tropicakeep.CostsRise', WHERE WHAT IT READS IS OF BULK AT MOST 1048576: true; the input reads as it did. -/
def costsRiseUptoRow : OpenClaim := { program := "ytndajklppipckaa", sum := "fd298945f2e9d4309c1ab286691a14529660918e4c244c141a83f73c329720fe", func := "tropica/tropicakeep.CostsRise", spec := "costsRise", unfollowed := true, recurses := true, plainKeys := false, apart := false, narrowed := true }
def CostsRiseUptoSaid : Prop := costsRiseUptoRow.holds Try.pinned (OpenSpec.upto costsRiseSpec)

/-- 'tropicakeep.CostsMerge', WHERE WHAT IT READS IS OF BULK AT MOST 1048576: true; the input reads as it did. -/
def costsMergeUptoRow : OpenClaim := { program := "ytndajklppipckaa", sum := "fd298945f2e9d4309c1ab286691a14529660918e4c244c141a83f73c329720fe", func := "tropica/tropicakeep.CostsMerge", spec := "costsMerge", unfollowed := true, recurses := true, plainKeys := false, apart := false, narrowed := true }
def CostsMergeUptoSaid : Prop := costsMergeUptoRow.holds Try.pinned (OpenSpec.upto costsMergeSpec)

/-- 'tropicakeep.PushZero', WHERE WHAT IT READS IS OF BULK AT MOST 1048576: true; the input reads as it did. -/
def pushZeroUptoRow : OpenClaim := { program := "ytndajklppipckaa", sum := "fd298945f2e9d4309c1ab286691a14529660918e4c244c141a83f73c329720fe", func := "tropica/tropicakeep.PushZero", spec := "pushZero", unfollowed := true, recurses := true, plainKeys := false, apart := false, narrowed := true }
def PushZeroUptoSaid : Prop := pushZeroUptoRow.holds Try.pinned (OpenSpec.upto pushZeroSpec)

/-- 'tropicakeep.PushKeeps', WHERE WHAT IT READS IS OF BULK AT MOST 1048576: true; the input reads as it did. -/
def pushKeepsUptoRow : OpenClaim := { program := "ytndajklppipckaa", sum := "fd298945f2e9d4309c1ab286691a14529660918e4c244c141a83f73c329720fe", func := "tropica/tropicakeep.PushKeeps", spec := "pushKeeps", unfollowed := true, recurses := true, plainKeys := false, apart := false, narrowed := true }
def PushKeepsUptoSaid : Prop := pushKeepsUptoRow.holds Try.pinned (OpenSpec.upto pushKeepsSpec)

/-- 'tropicakeep.PushPaths', WHERE WHAT IT READS IS OF BULK AT MOST 1048576: true; the input reads as it did. -/
def pushPathsUptoRow : OpenClaim := { program := "ytndajklppipckaa", sum := "fd298945f2e9d4309c1ab286691a14529660918e4c244c141a83f73c329720fe", func := "tropica/tropicakeep.PushPaths", spec := "pushPaths", unfollowed := true, recurses := true, plainKeys := false, apart := false, narrowed := true }
def PushPathsUptoSaid : Prop := pushPathsUptoRow.holds Try.pinned (OpenSpec.upto pushPathsSpec)

/-- 'tropicakeep.StreamCuts', WHERE WHAT IT READS IS OF BULK AT MOST 1048576: true; the input reads as it did. -/
def streamCutsUptoRow : OpenClaim := { program := "ytndajklppipckaa", sum := "fd298945f2e9d4309c1ab286691a14529660918e4c244c141a83f73c329720fe", func := "tropica/tropicakeep.StreamCuts", spec := "streamCuts", unfollowed := true, recurses := true, plainKeys := false, apart := false, narrowed := true }
def StreamCutsUptoSaid : Prop := streamCutsUptoRow.holds Try.pinned (OpenSpec.upto streamCutsSpec)

/-- 'tropicakeep.ComposeExpanded', WHERE WHAT IT READS IS OF BULK AT MOST 1048576: true; the input reads as it did. -/
def composeExpandedUptoRow : OpenClaim := { program := "ytndajklppipckaa", sum := "fd298945f2e9d4309c1ab286691a14529660918e4c244c141a83f73c329720fe", func := "tropica/tropicakeep.ComposeExpanded", spec := "composeExpanded", unfollowed := true, recurses := true, plainKeys := false, apart := false, narrowed := true }
def ComposeExpandedUptoSaid : Prop := composeExpandedUptoRow.holds Try.pinned (OpenSpec.upto composeExpandedSpec)

end Rows
end Go.Proofs.Ytndajklppipckaa
