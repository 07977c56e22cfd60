/- packed: the deferred closure of (*taker).machine. -/
import Derived.Test.YtajbfhdkghofbaaGreatDoorTakeN
import Derived.Recover
namespace Go.Proofs.YtajbfhdkghofbaaGreatDoor
open Go.RowKit

@[go_sem] theorem as_short (v : Value) (w : World) : (Instr.typeAssert (.iface 96 v) 20 96 true).run Tryz.prog w = .ok (.tuple #[v, .bool true]) w := by kernel_rfl
def shortE (r : Bool) : PanicEntry := { v := .iface 96 (.agg #[]), recovered := r }
set_option maxRecDepth 100000 in
set_option maxHeartbeats 1000000 in
theorem guard_panicking (p : Nat) (ok : Bool) (w : World) (hc : w.cell? ⟨p, 0, none⟩ = some (.bool ok)) (hz : w.frozen? ⟨p, 0, none⟩ = false) (_hlt : p < w.heap.size) :
    CallsD Tryz.prog 37 #[.pointer (some ⟨p, 0, none⟩)] (.panicking [shortE false]) w fun e u' w' =>
      e = .returned (.tuple #[]) ∧ u' = .panicking [shortE true] ∧ w' = (w.setCell ⟨p, 0, none⟩ (.bool false)).alloc (.cells #[] 96) := by
  refine callsD_of_wpS Tryz.func37 rfl fun c₀ cs hu => ?_
  apply wpS_seq
  apply wpS_region
  simp [wpOpsS, go_sem, recoverD, hu, shortE, Tryz.ntmps37, Exit.thenS]
  refine wpS_of_wp ?_
  have hrep : Array.replicate 14 undef = #[undef, undef, undef, undef, undef, undef, undef, undef, undef, undef, undef, undef, undef, undef] := rfl
  simp only [hrep, List.setIfInBounds_toArray, List.set_cons_zero, List.set_cons_succ, List.append_toArray, List.cons_append, List.nil_append]
  go_wp2_with fail
  cases c₀
  simp_all [bodyPostS, results, Tryz.results37, go_sem]
set_option maxRecDepth 100000 in
set_option maxHeartbeats 1000000 in
theorem guard_idle (p : Nat) (w : World) :
    CallsD Tryz.prog 37 #[.pointer (some ⟨p, 0, none⟩)] .returning w fun e u' w' => e = .returned (.tuple #[]) ∧ u' = .returning ∧ w' = w := by
  refine callsD_of_wpS Tryz.func37 rfl fun c₀ cs hu => ?_
  apply wpS_seq
  apply wpS_region
  simp [wpOpsS, go_sem, recoverD, hu, Tryz.ntmps37, Exit.thenS]
  refine wpS_of_wp ?_
  go_wp2_with fail
  cases c₀
  simp_all [bodyPostS, results, Tryz.results37, go_sem]
end Go.Proofs.YtajbfhdkghofbaaGreatDoor
