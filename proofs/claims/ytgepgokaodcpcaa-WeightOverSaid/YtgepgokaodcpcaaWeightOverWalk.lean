/- The walk of WeightOver. -/
import Derived.Test.YtgepgokaodcpcaaNum
import Derived.Below
namespace Go.Proofs.Ytgepgokaodcpcaa.weightOver
open Go.ChangeShapes Go.WideShapes Go.ChangeAt Go.RowKit
theorem fits_ok (a b : Int) (ha : a ≤ 1000000000) (hb : 0 ≤ b) (hab : b ≤ a) : fits b (a - b) := by unfold fits; omega
theorem fits_inf (b : Int) (h1 : 0 ≤ b) (h2 : b ≤ 1000000000) : fits b 1000000001 := by unfold fits; omega
theorem tms_ok (a b : Int) (ha : a ≤ 1000000000) (hb : 0 ≤ b) (hab : b ≤ a) : tms b (a - b) = a := by unfold tms; rw [if_neg (by omega)]; omega
theorem tms_inf (b : Int) : tms b 1000000001 = 1000000001 := by unfold tms; rw [if_pos (by omega)]

theorem walk (a0 : Int) (w0 : (Lit.int .i64 a0).wf = true) (a1 : Int) (w1 : (Lit.int .i64 a1).wf = true) (w : World) :
    Calls Try.prog 4 #[.int .i64 a0, .int .i64 a1] w fun e w' => e = .returned (.bool true) ∧ Below w.heap.size w w' := by
  obtain ⟨x1, x2⟩ := wf_i64 w0
  obtain ⟨y1, y2⟩ := wf_i64 w1
  clear w0 w1
  have hx := somew_b a0
  have hy := somew_b a1
  have S0 := Lib.hid (some_any a0 w x1 x2)
  have S1 := Lib.hid (some_any a1 w y1 y2)
  generalize somew a0 = a at *
  generalize somew a1 = b at *
  have ha1 : 0 ≤ a := by omega
  have ha2 : a ≤ 1000000001 := by omega
  have hb1 : 0 ≤ b := by omega
  have hb2 : b ≤ 1000000001 := by omega
  by_cases hbi : b = 1000000001
  · subst hbi
    have O := Lib.hid (Over_none a 1000000001 w ha1 ha2 hb1 hb2 (.inl rfl))
    clear hx hy
    go_enter Try.func4, Try.ntmps4
    go_wp2_with fail
    refine S0.out.mono ?_; rintro e w' ⟨rfl, rfl⟩
    go_wp2_with fail
    refine S1.out.mono ?_; rintro e w' ⟨rfl, rfl⟩
    go_wp2_with fail
    refine O.out.mono ?_; rintro e w' ⟨rfl, rfl⟩
    go_wp2_with fail
    go_ret
    exact ⟨rfl, Below.refl _ _⟩
  · have hb3 : b ≤ 1000000000 := by omega
    have hbf : (b == 1000000001) = false := by simp; omega
    by_cases hab : a < b
    · have O := Lib.hid (Over_none a b w ha1 ha2 hb1 hb2 (.inr hab))
      clear hx hy
      go_enter Try.func4, Try.ntmps4
      go_wp2_with fail
      refine S0.out.mono ?_; rintro e w' ⟨rfl, rfl⟩
      go_wp2_with fail
      refine S1.out.mono ?_; rintro e w' ⟨rfl, rfl⟩
      go_wp2_with fail
      refine O.out.mono ?_; rintro e w' ⟨rfl, rfl⟩
      go_wp2_with fail
      go_ret
      exact ⟨rfl, Below.refl _ _⟩
    · by_cases hai : a = 1000000001
      · subst hai
        have O := Lib.hid (Over_inf b w hb1 hb3)
        have T := Lib.hid (times_any b 1000000001 w (fits_inf b hb1 hb3))
        rw [tms_inf] at T
        clear hx hy
        go_enter Try.func4, Try.ntmps4
        go_wp2_with fail
        refine S0.out.mono ?_; rintro e w' ⟨rfl, rfl⟩
        go_wp2_with fail
        refine S1.out.mono ?_; rintro e w' ⟨rfl, rfl⟩
        go_wp2_with fail
        refine O.out.mono ?_; rintro e w' ⟨rfl, rfl⟩
        go_wp2_with fail
        refine T.out.mono ?_; rintro e w' ⟨rfl, rfl⟩
        go_wp2_with fail
        go_ret
        exact ⟨rfl, Below.refl _ _⟩
      · have ha3 : a ≤ 1000000000 := by omega
        have hab' : b ≤ a := by omega
        have O := Lib.hid (Over_ok a b w hb1 hab' ha3)
        have T := Lib.hid (times_any b (a - b) w (fits_ok a b ha3 hb1 hab'))
        rw [tms_ok a b ha3 hb1 hab'] at T
        clear hx hy hai
        go_enter Try.func4, Try.ntmps4
        go_wp2_with fail
        refine S0.out.mono ?_; rintro e w' ⟨rfl, rfl⟩
        go_wp2_with fail
        refine S1.out.mono ?_; rintro e w' ⟨rfl, rfl⟩
        go_wp2_with fail
        refine O.out.mono ?_; rintro e w' ⟨rfl, rfl⟩
        go_wp2_with fail
        refine T.out.mono ?_; rintro e w' ⟨rfl, rfl⟩
        go_wp2_with fail
        go_ret
        exact ⟨rfl, Below.refl _ _⟩
end Go.Proofs.Ytgepgokaodcpcaa.weightOver
