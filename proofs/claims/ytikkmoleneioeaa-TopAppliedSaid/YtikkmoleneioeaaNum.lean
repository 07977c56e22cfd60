/- Contracts of small functions on numbers: some, may, Plus, Times, Over, plus, times. -/
import Derived.Test.YtikkmoleneioeaaPick
namespace Go.Proofs.Ytikkmoleneioeaa
open Go.ChangeShapes Go.WideShapes Go.ChangeAt Go.RowKit

/-- what some answers -/
def somew (n : Int) : Int := if 333333333 < pick n 333333335 then 1000000001 else pick n 333333335

theorem somew_b (n : Int) : (0 ≤ somew n ∧ somew n ≤ 333333333) ∨ somew n = 1000000001 := by
  have h1 := pick_lo n 333333335 (by omega)
  unfold somew; split <;> omega


theorem may_yes (n : Int) (w : World) (h1 : 0 ≤ n) (h2 : n ≤ 1000000001) :
    Calls Try.prog 69 #[.int .i64 n] w fun e w' => e = .returned (.bool true) ∧ w = w' := by
  go_enter Try.func69, Try.ntmps69
  go_wp2
  go_ret
  exact ⟨rfl, rfl⟩

theorem may_no (n : Int) (w : World) (h : n < 0 ∨ 1000000001 < n) :
    Calls Try.prog 69 #[.int .i64 n] w fun e w' => e = .returned (.bool false) ∧ w = w' := by
  rcases h with h | h
  · go_enter Try.func69, Try.ntmps69
    go_wp2
    go_ret
    exact ⟨rfl, rfl⟩
  · have : 0 ≤ n := by omega
    have : decide (n ≤ 1000000001) = false := by simp; omega
    go_enter Try.func69, Try.ntmps69
    go_wp2
    go_ret
    exact ⟨rfl, rfl⟩

/-- Times of two weights: Inf goes over all -/
def tms (a b : Int) : Int := if a = 1000000001 ∨ b = 1000000001 then 1000000001 else a + b

theorem Times_inf (a b : Int) (w : World) (a1 : 0 ≤ a) (a2 : a ≤ 1000000001) (b1 : 0 ≤ b) (b2 : b ≤ 1000000001) (h : a = 1000000001 ∨ b = 1000000001) :
    Calls Try.prog 54 #[.int .i64 a, .int .i64 b] w fun e w' => e = .returned (.tuple #[.int .i64 1000000001, .int .i64 0]) ∧ w = w' := by
  by_cases ha : a = 1000000001
  · subst ha
    go_enter Try.func54, Try.ntmps54
    go_wp2_with (go_at_call 69; refine (may_yes _ _ (by omega) (by omega)).mono ?_; rintro e w' ⟨rfl, rfl⟩)
    go_ret2
    exact ⟨rfl, rfl⟩
  · have hb : b = 1000000001 := by omega
    subst hb
    have : (a == 1000000001) = false := by simp; omega
    go_enter Try.func54, Try.ntmps54
    go_wp2_with (go_at_call 69; refine (may_yes _ _ (by omega) (by omega)).mono ?_; rintro e w' ⟨rfl, rfl⟩)
    go_ret2
    exact ⟨rfl, rfl⟩

theorem Times_ok (a b : Int) (w : World) (a1 : 0 ≤ a) (a2 : a ≤ 1000000000) (b1 : 0 ≤ b) (b2 : b ≤ 1000000000) (h : a + b ≤ 1000000000) :
    Calls Try.prog 54 #[.int .i64 a, .int .i64 b] w fun e w' => e = .returned (.tuple #[.int .i64 (a + b), .int .i64 0]) ∧ w = w' := by
  have : (a == 1000000001) = false := by simp; omega
  have : (b == 1000000001) = false := by simp; omega
  go_enter Try.func54, Try.ntmps54
  go_wp2_with (go_at_call 69; refine (may_yes _ _ (by omega) (by omega)).mono ?_; rintro e w' ⟨rfl, rfl⟩)
  go_ret2
  exact ⟨rfl, rfl⟩

theorem Times_over (a b : Int) (w : World) (a1 : 0 ≤ a) (a2 : a ≤ 1000000000) (b1 : 0 ≤ b) (b2 : b ≤ 1000000000) (h : 1000000000 < a + b) :
    Calls Try.prog 54 #[.int .i64 a, .int .i64 b] w fun e w' => e = .returned (.tuple #[.int .i64 0, .int .i64 4]) ∧ w = w' := by
  have : (a == 1000000001) = false := by simp; omega
  have : (b == 1000000001) = false := by simp; omega
  go_enter Try.func54, Try.ntmps54
  go_wp2_with (go_at_call 69; refine (may_yes _ _ (by omega) (by omega)).mono ?_; rintro e w' ⟨rfl, rfl⟩)
  go_ret2
  exact ⟨rfl, rfl⟩

/-- two weights that can be put one behind the other -/
def fits (a b : Int) : Prop := 0 ≤ a ∧ a ≤ 1000000001 ∧ 0 ≤ b ∧ b ≤ 1000000001 ∧ (a = 1000000001 ∨ b = 1000000001 ∨ a + b ≤ 1000000000)


end Go.Proofs.Ytikkmoleneioeaa
