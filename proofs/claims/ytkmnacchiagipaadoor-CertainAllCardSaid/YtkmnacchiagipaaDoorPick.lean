/- picked: a number from 0 to many - 1. -/
import Derived.Test.YtkmnacchiagipaaDoorRows
import Derived.WalkKit
import Derived.ProofKit
import Derived.OpenShut
import Derived.Lib.Hide
import Derived.WalkLawsBesides
import Derived.Outline
namespace Go.Proofs.YtkmnacchiagipaaDoor
open Go.ChangeShapes Go.WideShapes Go.ChangeAt Go.RowKit

theorem wf_i64 {a : Int} (h : (Lit.int .i64 a).wf = true) : -9223372036854775808 ≤ a ∧ a ≤ 9223372036854775807 := by
  simpa [Lit.wf, IntKind.min, IntKind.max, IntKind.signed, IntKind.bits] using h

/-- what picked answers -/
def pick (n m : Int) : Int := if n < 0 then (-(n + 1)) % m else n % m

theorem pick_lo (n m : Int) (hm : 1 ≤ m) : 0 ≤ pick n m := by
  unfold pick; split <;> exact Int.emod_nonneg _ (by omega)
theorem pick_hi (n m : Int) (hm : 1 ≤ m) : pick n m < m := by
  unfold pick; split <;> exact Int.emod_lt_of_pos _ (by omega)

theorem picked_any (n m : Int) (w : World) (h1 : -9223372036854775808 ≤ n) (h2 : n ≤ 9223372036854775807) (h3 : 1 ≤ m) (h4 : m ≤ 9223372036854775807) :
    Calls Tryd.prog 10 #[.int .i64 n, .int .i64 m] w fun e w' => e = .returned (.int .i64 (pick n m)) ∧ w = w' := by
  by_cases h : n < 0
  · have hp : pick n m = -((n+1).tmod m) := by unfold pick; rw [if_pos h, ← Int.neg_tmod, Int.tmod_eq_emod_of_nonneg (by omega)]
    have H := Lib.hid hp; clear hp
    go_enter Tryd.func10, Tryd.ntmps10
    go_wp2
    go_ret
    rw [H.out]
    exact ⟨rfl, rfl⟩
  · have hp : pick n m = n % m := by unfold pick; rw [if_neg h]
    have H := Lib.hid hp; clear hp
    go_enter Tryd.func10, Tryd.ntmps10
    go_wp2
    go_ret
    rw [H.out]
    exact ⟨rfl, rfl⟩
end Go.Proofs.YtkmnacchiagipaaDoor
