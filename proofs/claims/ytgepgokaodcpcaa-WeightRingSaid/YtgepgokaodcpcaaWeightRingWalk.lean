/- The walk of WeightRing. -/
import Derived.Test.YtgepgokaodcpcaaInts
namespace Go.Proofs.Ytgepgokaodcpcaa.weightRing
open Go.ChangeShapes Go.WideShapes Go.ChangeAt Go.RowKit

theorem wt_some (x : Int) : Wt (somew x) := by have := somew_b x; unfold Wt; omega

theorem tms_c (a b : Int) : ((a = 1000000001 ∨ b = 1000000001) ∧ tms a b = 1000000001) ∨ (a ≠ 1000000001 ∧ b ≠ 1000000001 ∧ tms a b = a + b) := by unfold tms; split <;> omega

/-- a third of the greatest at most, or Inf -/
def Third (a : Int) : Prop := 0 ≤ a ∧ a ≤ 333333333 ∨ a = 1000000001

set_option maxHeartbeats 1000000 in
theorem walk (a0 : Int) (w0 : (Lit.int .i64 a0).wf = true) (a1 : Int) (w1 : (Lit.int .i64 a1).wf = true) (a2 : Int) (w2 : (Lit.int .i64 a2).wf = true) (w : World) :
    Calls Try.prog 5 #[.int .i64 a0, .int .i64 a1, .int .i64 a2] w fun e w' => e = .returned (.bool true) ∧ Below w.heap.size w w' := by
  obtain ⟨x1, x2⟩ := wf_i64 w0
  obtain ⟨y1, y2⟩ := wf_i64 w1
  obtain ⟨z1, z2⟩ := wf_i64 w2
  clear w0 w1 w2
  have hx := somew_b a0
  have hy := somew_b a1
  have hz := somew_b a2
  have S0 := Lib.hid (some_any a0 w x1 x2)
  have S1 := Lib.hid (some_any a1 w y1 y2)
  have S2 := Lib.hid (some_any a2 w z1 z2)
  generalize somew a0 = a at *
  generalize somew a1 = b at *
  generalize somew a2 = c at *
  have ha : Wt a := by unfold Wt; omega
  have hb : Wt b := by unfold Wt; omega
  have hc : Wt c := by unfold Wt; omega
  have hab := wt_mn ha hb
  have hbc := wt_mn hb hc
  have hi : Wt 1000000001 := by unfold Wt; omega
  have f1 : fits a b := by unfold fits; omega
  have f2 : fits b c := by unfold fits; omega
  have f3 : fits a c := by unfold fits; omega
  have f4 : fits b a := by unfold fits; omega
  have f5 : fits (tms a b) c := by unfold fits tms; split <;> omega
  have f6 : fits a (tms b c) := by unfold fits tms; split <;> omega
  have f7 : fits a (mn b c) := by unfold fits mn; omega
  have f8 : fits a 0 := by unfold fits; omega
  have f9 : fits a 1000000001 := by unfold fits; omega
  have t1 : Wt (tms a b) := by unfold Wt tms; split <;> omega
  have t2 : Wt (tms a c) := by unfold Wt tms; split <;> omega
  have e1 : (mn (mn a b) c == mn a (mn b c)) = true := by rw [beq_iff_eq]; unfold mn; omega
  have e2 : (tms (tms a b) c == tms a (tms b c)) = true := by rw [beq_iff_eq]; have := tms_c a b; have := tms_c b c; have := tms_c (tms a b) c; have := tms_c a (tms b c); omega
  have e3 : (mn a b == mn b a) = true := by rw [beq_iff_eq]; unfold mn; omega
  have e4 : (tms a b == tms b a) = true := by rw [beq_iff_eq]; have := tms_c a b; have := tms_c b a; omega
  have e5 : (tms a (mn b c) == mn (tms a b) (tms a c)) = true := by rw [beq_iff_eq]; unfold mn; have := tms_c a b; have := tms_c a c; have := tms_c a (min b c); omega
  have e6 : (mn a 1000000001 == a) = true := by rw [beq_iff_eq]; unfold mn; unfold Wt at ha; omega
  have e7 : (tms a 0 == a) = true := by rw [beq_iff_eq]; have := tms_c a 0; omega
  have e8 : (tms a 1000000001 == 1000000001) = true := by simp [tms]
  have e9 : (mn a a == a) = true := by simp [mn]
  have e10 : 0 ≤ mn a b := hab.1
  clear hx hy hz
  have bel := Below.refl w.heap.size w
  go_enter Try.func5, Try.ntmps5
  go_wp2_with fail
  refine S0.out.mono ?_; rintro e w' ⟨rfl, rfl⟩
  go_wp2_with fail
  refine S1.out.mono ?_; rintro e w' ⟨rfl, rfl⟩
  go_wp2_with fail
  refine S2.out.mono ?_; rintro e w' ⟨rfl, rfl⟩
  go_wp2_with (first | (go_at_call 19; refine (plus_any _ _ _ (by assumption) (by assumption)).mono ?_; rintro e w' ⟨rfl, bel2⟩; replace bel := Below.step bel bel2; clear bel2) | (go_at_call 18; refine (times_any _ _ _ (by assumption)).mono ?_; rintro e w' ⟨rfl, rfl⟩))
  go_ret
  exact ⟨rfl, bel⟩
end Go.Proofs.Ytgepgokaodcpcaa.weightRing
