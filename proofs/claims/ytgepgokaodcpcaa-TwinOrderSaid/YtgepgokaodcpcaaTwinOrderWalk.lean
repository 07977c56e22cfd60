/- The walk of TwinOrder. -/
import Derived.Test.YtgepgokaodcpcaaTwinLaws
import Derived.Test.YtgepgokaodcpcaaArgTwin
namespace Go.Proofs.Ytgepgokaodcpcaa.twinOrder
open Go.ChangeShapes Go.WideShapes Go.ChangeAt Go.RowKit

theorem lessB_no (a b c d : Int) (h : ¬ (a < c ∨ a = c ∧ b < d)) : lessB a b c d = false := by
  have := lessB_iff a b c d
  cases hl : lessB a b c d
  · rfl
  · exact absurd (this.1 hl) h

theorem less_at {a b c d : Int} {t : Bool} (w : World) (H : Hid (lessB a b c d = t)) :
    Calls Try.prog 15 #[(Value.agg #[Value.int .i64 a, Value.int .i64 b]), (Value.agg #[Value.int .i64 c, Value.int .i64 d])] w fun e w' => e = .returned (.bool t) ∧ Below w.heap.size w w' := by
  have := Less_any a b c d w
  rw [H.out] at this
  exact this

set_option maxHeartbeats 2000000 in
theorem main (a b c d e f : Int) (p q r s : Bool) (w : World) (h1 : lessB a b c d = p) (h2 : lessB c d a b = q) (h3 : lessB c d e f = r) (h4 : lessB a b e f = s)
    (t u : Bool) (h5 : (a == c) = t) (h6 : (b == d) = u) (hone : (p = true ∧ q = false ∧ (t = false ∨ t = true ∧ u = false)) ∨ (p = false ∧ q = true ∧ (t = false ∨ t = true ∧ u = false)) ∨ (p = false ∧ q = false ∧ t = true ∧ u = true)) (htr : p = false ∨ (p = true ∧ r = false) ∨ (p = true ∧ r = true ∧ s = true)) :
    Calls Try.prog 3 #[(Value.agg #[Value.int .i64 a, Value.int .i64 b]), (Value.agg #[Value.int .i64 c, Value.int .i64 d]), (Value.agg #[Value.int .i64 e, Value.int .i64 f])] w fun e w' => e = .returned (.bool true) ∧ Below w.heap.size w w' := by
  have H1 := Lib.hid h1; have H2 := Lib.hid h2; have H3 := Lib.hid h3; have H4 := Lib.hid h4
  clear h1 h2 h3 h4
  rcases hone with ⟨rfl, rfl, rfl | ⟨rfl, rfl⟩⟩ | ⟨rfl, rfl, rfl | ⟨rfl, rfl⟩⟩ | ⟨rfl, rfl, rfl, rfl⟩
  all_goals
    rcases htr with g | ⟨g, rfl⟩ | ⟨g, rfl, rfl⟩
    all_goals first
      | (exact absurd g (by decide))
      | (clear g
         go_enter Try.func3, Try.ntmps3
         go_wp2_with fail
         refine (less_at _ H1).mono ?_; rintro e w1 ⟨rfl, bel⟩; obtain ⟨c1, f1⟩ := bcell bel; have z1 := bel.size; simp at z1; (try have y0 : w.heap.size < w1.heap.size := by omega); (try have y1 : w.heap.size + 1 < w1.heap.size := by omega); (try have y2 : w.heap.size + 1 + 1 < w1.heap.size := by omega); (try have y3 : w.heap.size + 1 + 1 + 1 < w1.heap.size := by omega); (try have y4 : w.heap.size + 1 + 1 + 1 + 1 < w1.heap.size := by omega); (try have y5 : w.heap.size + 1 + 1 + 1 + 1 + 1 < w1.heap.size := by omega); (try have y6 : w.heap.size + 1 + 1 + 1 + 1 + 1 + 1 < w1.heap.size := by omega)
         go_wp2_with fail
         refine (less_at _ H2).mono ?_; rintro e w2 ⟨rfl, b2⟩; replace bel := Below.step bel b2; clear b2 c1 f1; obtain ⟨c1, f1⟩ := bcell bel; have z1 := bel.size; simp at z1; (try have y0 : w.heap.size < w2.heap.size := by omega); (try have y1 : w.heap.size + 1 < w2.heap.size := by omega); (try have y2 : w.heap.size + 1 + 1 < w2.heap.size := by omega); (try have y3 : w.heap.size + 1 + 1 + 1 < w2.heap.size := by omega); (try have y4 : w.heap.size + 1 + 1 + 1 + 1 < w2.heap.size := by omega); (try have y5 : w.heap.size + 1 + 1 + 1 + 1 + 1 < w2.heap.size := by omega); (try have y6 : w.heap.size + 1 + 1 + 1 + 1 + 1 + 1 < w2.heap.size := by omega)
         go_wp2_with fail
         refine (less_at _ H3).mono ?_; rintro e w2 ⟨rfl, b2⟩; replace bel := Below.step bel b2; clear b2 c1 f1; obtain ⟨c1, f1⟩ := bcell bel; have z1 := bel.size; simp at z1; (try have y0 : w.heap.size < w2.heap.size := by omega); (try have y1 : w.heap.size + 1 < w2.heap.size := by omega); (try have y2 : w.heap.size + 1 + 1 < w2.heap.size := by omega); (try have y3 : w.heap.size + 1 + 1 + 1 < w2.heap.size := by omega); (try have y4 : w.heap.size + 1 + 1 + 1 + 1 < w2.heap.size := by omega); (try have y5 : w.heap.size + 1 + 1 + 1 + 1 + 1 < w2.heap.size := by omega); (try have y6 : w.heap.size + 1 + 1 + 1 + 1 + 1 + 1 < w2.heap.size := by omega)
         go_wp2_with fail
         refine (less_at _ H4).mono ?_; rintro e w2 ⟨rfl, b2⟩; replace bel := Below.step bel b2; clear b2 c1 f1; obtain ⟨c1, f1⟩ := bcell bel; have z1 := bel.size; simp at z1; (try have y0 : w.heap.size < w2.heap.size := by omega); (try have y1 : w.heap.size + 1 < w2.heap.size := by omega); (try have y2 : w.heap.size + 1 + 1 < w2.heap.size := by omega); (try have y3 : w.heap.size + 1 + 1 + 1 < w2.heap.size := by omega); (try have y4 : w.heap.size + 1 + 1 + 1 + 1 < w2.heap.size := by omega); (try have y5 : w.heap.size + 1 + 1 + 1 + 1 + 1 < w2.heap.size := by omega); (try have y6 : w.heap.size + 1 + 1 + 1 + 1 + 1 + 1 < w2.heap.size := by omega)
         go_wp2_with fail
         go_ret
         exact ⟨rfl, (by repeat' (first | exact Below.refl _ _ | assumption | refine Below.step ?_ bel | refine Below.drew ?_ | refine Below.alloc ?_ (by simp; try omega) _ | refine Below.setCell ?_ (by simp; try omega) _))⟩)

theorem walk (v0 : Value) (z0 : Int × Int) (h0 : TwinArg v0 z0) (v1 : Value) (z1 : Int × Int) (h1 : TwinArg v1 z1) (v2 : Value) (z2 : Int × Int) (h2 : TwinArg v2 z2) (w : World) :
    Calls Try.prog 3 #[v0, v1, v2] w fun e w' => e = .returned (.bool true) ∧ Below w.heap.size w w' := by
  obtain ⟨a, b⟩ := z0
  obtain ⟨c, d⟩ := z1
  obtain ⟨e, f⟩ := z2
  unfold TwinArg at h0 h1 h2
  subst h0 h1 h2
  have k1 := lessB_iff a b c d; have k2 := lessB_iff c d a b; have k3 := lessB_iff c d e f; have k4 := lessB_iff a b e f
  refine main a b c d e f _ _ _ _ w rfl rfl rfl rfl _ _ rfl rfl ?_ ?_
  · by_cases x1 : a < c ∨ a = c ∧ b < d
    · left
      refine ⟨k1.2 x1, lessB_no _ _ _ _ (by omega), ?_⟩
      rcases x1 with x1 | ⟨x1, x2⟩
      · left; simp; omega
      · right; simp; omega
    · right
      by_cases x2 : c < a ∨ c = a ∧ d < b
      · left
        refine ⟨lessB_no _ _ _ _ x1, k2.2 x2, ?_⟩
        rcases x2 with x2 | ⟨x2, x3⟩
        · left; simp; omega
        · right; simp; omega
      · right
        exact ⟨lessB_no _ _ _ _ x1, lessB_no _ _ _ _ x2, by simp; omega, by simp; omega⟩
  · by_cases x1 : a < c ∨ a = c ∧ b < d
    · right
      by_cases x2 : c < e ∨ c = e ∧ d < f
      · right; exact ⟨k1.2 x1, k3.2 x2, k4.2 (by omega)⟩
      · left; exact ⟨k1.2 x1, lessB_no _ _ _ _ x2⟩
    · left; exact lessB_no _ _ _ _ x1
end Go.Proofs.Ytgepgokaodcpcaa.twinOrder
