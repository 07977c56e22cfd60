/- picked: a number from 0 to many - 1. -/
/- Contracts of small functions on numbers: some, may, Plus, Times, Over, plus, times. -/
import Derived.Test.YtfikkpgigicepaaRows
import Derived.WalkKit
import Derived.ProofKit
import Derived.OpenShut
import Derived.Lib.Hide
import Derived.WalkLawsBesides
import Derived.Outline
namespace Go.Proofs.Ytfikkpgigicepaa
open Go.ChangeShapes Go.WideShapes Go.ChangeAt Go.RowKit

theorem wf_i64 {a : Int} (h : (Lit.int .i64 a).wf = true) : -9223372036854775808 ≤ a ∧ a ≤ 9223372036854775807 := by
  simpa [Lit.wf, IntKind.min, IntKind.max, IntKind.signed, IntKind.bits] using h

/-- what picked answers -/
def pick (n m : Int) : Int := if n < 0 then (-(n + 1)) % m else n % m

theorem pick_lo (n m : Int) (hm : 1 ≤ m) : 0 ≤ pick n m := by
  unfold pick; split <;> exact Int.emod_nonneg _ (by omega)
theorem pick_hi (n m : Int) (hm : 1 ≤ m) : pick n m < m := by
  unfold pick; split <;> exact Int.emod_lt_of_pos _ (by omega)

theorem picked_any (n m : Int) (w : World) (h1 : -9223372036854775808 ≤ n) (h2 : n ≤ 9223372036854775807) (h3 : 1 ≤ m) (h4 : m ≤ 9223372036854775807) :
    Calls Try.prog 18 #[.int .i64 n, .int .i64 m] w fun e w' => e = .returned (.int .i64 (pick n m)) ∧ w = w' := by
  by_cases h : n < 0
  · have hp : pick n m = -((n+1).tmod m) := by unfold pick; rw [if_pos h, ← Int.neg_tmod, Int.tmod_eq_emod_of_nonneg (by omega)]
    have H := Lib.hid hp; clear hp
    go_enter Try.func18, Try.ntmps18
    go_wp2
    go_ret
    rw [H.out]
    exact ⟨rfl, rfl⟩
  · have hp : pick n m = n % m := by unfold pick; rw [if_neg h]
    have H := Lib.hid hp; clear hp
    go_enter Try.func18, Try.ntmps18
    go_wp2
    go_ret
    rw [H.out]
    exact ⟨rfl, rfl⟩
end Go.Proofs.Ytfikkpgigicepaa

namespace Go.Proofs.Ytfikkpgigicepaa
open Go.ChangeShapes Go.WideShapes Go.ChangeAt Go.RowKit

/-- what some answers -/
def somew (n : Int) : Int := if 333333333 < pick n 333333335 then 1000000001 else pick n 333333335

theorem somew_b (n : Int) : (0 ≤ somew n ∧ somew n ≤ 333333333) ∨ somew n = 1000000001 := by
  have h1 := pick_lo n 333333335 (by omega)
  unfold somew; split <;> omega


theorem may_yes (n : Int) (w : World) (h1 : 0 ≤ n) (h2 : n ≤ 1000000001) :
    Calls Try.prog 91 #[.int .i64 n] w fun e w' => e = .returned (.bool true) ∧ w = w' := by
  go_enter Try.func91, Try.ntmps91
  go_wp2
  go_ret
  exact ⟨rfl, rfl⟩

theorem may_no (n : Int) (w : World) (h : n < 0 ∨ 1000000001 < n) :
    Calls Try.prog 91 #[.int .i64 n] w fun e w' => e = .returned (.bool false) ∧ w = w' := by
  rcases h with h | h
  · go_enter Try.func91, Try.ntmps91
    go_wp2
    go_ret
    exact ⟨rfl, rfl⟩
  · have : 0 ≤ n := by omega
    have : decide (n ≤ 1000000001) = false := by simp; omega
    go_enter Try.func91, Try.ntmps91
    go_wp2
    go_ret
    exact ⟨rfl, rfl⟩

/-- Times of two weights: Inf goes over all -/
def tms (a b : Int) : Int := if a = 1000000001 ∨ b = 1000000001 then 1000000001 else a + b

theorem Times_inf (a b : Int) (w : World) (a1 : 0 ≤ a) (a2 : a ≤ 1000000001) (b1 : 0 ≤ b) (b2 : b ≤ 1000000001) (h : a = 1000000001 ∨ b = 1000000001) :
    Calls Try.prog 68 #[.int .i64 a, .int .i64 b] w fun e w' => e = .returned (.tuple #[.int .i64 1000000001, .int .i64 0]) ∧ w = w' := by
  by_cases ha : a = 1000000001
  · subst ha
    go_enter Try.func68, Try.ntmps68
    go_wp2_with (go_at_call 91; refine (may_yes _ _ (by omega) (by omega)).mono ?_; rintro e w' ⟨rfl, rfl⟩)
    go_ret2
    exact ⟨rfl, rfl⟩
  · have hb : b = 1000000001 := by omega
    subst hb
    have : (a == 1000000001) = false := by simp; omega
    go_enter Try.func68, Try.ntmps68
    go_wp2_with (go_at_call 91; refine (may_yes _ _ (by omega) (by omega)).mono ?_; rintro e w' ⟨rfl, rfl⟩)
    go_ret2
    exact ⟨rfl, rfl⟩

theorem Times_ok (a b : Int) (w : World) (a1 : 0 ≤ a) (a2 : a ≤ 1000000000) (b1 : 0 ≤ b) (b2 : b ≤ 1000000000) (h : a + b ≤ 1000000000) :
    Calls Try.prog 68 #[.int .i64 a, .int .i64 b] w fun e w' => e = .returned (.tuple #[.int .i64 (a + b), .int .i64 0]) ∧ w = w' := by
  have : (a == 1000000001) = false := by simp; omega
  have : (b == 1000000001) = false := by simp; omega
  go_enter Try.func68, Try.ntmps68
  go_wp2_with (go_at_call 91; refine (may_yes _ _ (by omega) (by omega)).mono ?_; rintro e w' ⟨rfl, rfl⟩)
  go_ret2
  exact ⟨rfl, rfl⟩

theorem Times_over (a b : Int) (w : World) (a1 : 0 ≤ a) (a2 : a ≤ 1000000000) (b1 : 0 ≤ b) (b2 : b ≤ 1000000000) (h : 1000000000 < a + b) :
    Calls Try.prog 68 #[.int .i64 a, .int .i64 b] w fun e w' => e = .returned (.tuple #[.int .i64 0, .int .i64 4]) ∧ w = w' := by
  have : (a == 1000000001) = false := by simp; omega
  have : (b == 1000000001) = false := by simp; omega
  go_enter Try.func68, Try.ntmps68
  go_wp2_with (go_at_call 91; refine (may_yes _ _ (by omega) (by omega)).mono ?_; rintro e w' ⟨rfl, rfl⟩)
  go_ret2
  exact ⟨rfl, rfl⟩

/-- two weights that can be put one behind the other -/
def fits (a b : Int) : Prop := 0 ≤ a ∧ a ≤ 1000000001 ∧ 0 ≤ b ∧ b ≤ 1000000001 ∧ (a = 1000000001 ∨ b = 1000000001 ∨ a + b ≤ 1000000000)


end Go.Proofs.Ytfikkpgigicepaa
