/- The walk of PowerAdds. -/
import Derived.Test.YtgepgokaodcpcaaPower
namespace Go.Proofs.Ytgepgokaodcpcaa
open Go.ChangeShapes Go.WideShapes Go.ChangeAt Go.RowKit

theorem Power_ok (a b k : Int) (w : World) (h1 : 0 ≤ a) (h2 : a ≤ 1000000000) (h3 : 0 ≤ b) (h4 : b ≤ 1000000000) (k1 : 0 ≤ k) (k2 : k ≤ 1000000000) (s1 : a * k ≤ 1000000000) (s2 : b * k ≤ 1000000000) :
    Calls Try.prog 26 #[(Value.agg #[Value.int .i64 a, Value.int .i64 b]), .int .i64 k] w fun e w' => e = .returned (.tuple #[(Value.agg #[Value.int .i64 (a * k), Value.int .i64 (b * k)]), .int .i64 0]) ∧ Below w.heap.size w w' := by
  have P := Lib.hid (fun w => power_ok a b k w h1 h2 h3 h4 k1 k2 s1 s2)
  have ht : TwOk a b := .inr (by omega)
  clear s1 s2
  generalize a * k = x at *
  generalize b * k = y at *
  go_enter Try.func26, Try.ntmps26
  go_wp2_with fail
  refine (twmay_yes _ _ _ ht).mono ?_; rintro e w1 ⟨rfl, bel⟩; obtain ⟨c1, f1⟩ := bcell bel; have z1 := bel.size; simp at z1; (try have y0 : w.heap.size < w1.heap.size := by omega); (try have y1 : w.heap.size + 1 < w1.heap.size := by omega); (try have y2 : w.heap.size + 1 + 1 < w1.heap.size := by omega); (try have y3 : w.heap.size + 1 + 1 + 1 < w1.heap.size := by omega); (try have y4 : w.heap.size + 1 + 1 + 1 + 1 < w1.heap.size := by omega); (try have y5 : w.heap.size + 1 + 1 + 1 + 1 + 1 < w1.heap.size := by omega); (try have y6 : w.heap.size + 1 + 1 + 1 + 1 + 1 + 1 < w1.heap.size := by omega)
  go_wp2_with fail
  refine (P.out _).mono ?_; rintro e w2 ⟨rfl, b2⟩; replace bel := Below.step bel b2; clear b2 c1 f1; obtain ⟨c1, f1⟩ := bcell bel; have z1 := bel.size; simp at z1; (try have y0 : w.heap.size < w2.heap.size := by omega); (try have y1 : w.heap.size + 1 < w2.heap.size := by omega); (try have y2 : w.heap.size + 1 + 1 < w2.heap.size := by omega); (try have y3 : w.heap.size + 1 + 1 + 1 < w2.heap.size := by omega); (try have y4 : w.heap.size + 1 + 1 + 1 + 1 < w2.heap.size := by omega); (try have y5 : w.heap.size + 1 + 1 + 1 + 1 + 1 < w2.heap.size := by omega); (try have y6 : w.heap.size + 1 + 1 + 1 + 1 + 1 + 1 < w2.heap.size := by omega)
  go_wp2_with fail
  exact bodyPost_ret (v := .tuple #[(Value.agg #[Value.int .i64 x, Value.int .i64 y]), .int .i64 0]) (by simp [results, Try.results26, go_sem, *]) rfl ⟨rfl, (by repeat' (first | exact Below.refl _ _ | assumption | refine Below.step ?_ bel | refine Below.drew ?_ | refine Below.alloc ?_ (by first | omega | (simp; done) | (simp; omega)) _ | refine Below.setCell ?_ (by first | omega | (simp; done) | (simp; omega)) _))⟩

namespace powerAdds
theorem mul_le (a k m n : Int) (ha2 : a ≤ m) (hk : 0 ≤ k) (hk2 : k ≤ n) (hm : 0 ≤ m) : a * k ≤ m * n := by
  calc a * k ≤ m * k := Int.mul_le_mul_of_nonneg_right ha2 hk
    _ ≤ m * n := Int.mul_le_mul_of_nonneg_left hk2 hm

theorem power_at {a b k x y : Int} (h : Hid (a * k = x ∧ b * k = y)) (w : World) (h1 : 0 ≤ a) (h2 : a ≤ 1000000000) (h3 : 0 ≤ b) (h4 : b ≤ 1000000000) (k1 : 0 ≤ k) (k2 : k ≤ 1000000000) (s1 : x ≤ 1000000000) (s2 : y ≤ 1000000000) :
    Calls Try.prog 26 #[(Value.agg #[Value.int .i64 a, Value.int .i64 b]), .int .i64 k] w fun e w' => e = .returned (.tuple #[(Value.agg #[Value.int .i64 x, Value.int .i64 y]), .int .i64 0]) ∧ Below w.heap.size w w' := by
  obtain ⟨rfl, rfl⟩ := h.out
  exact Power_ok a b k w h1 h2 h3 h4 k1 k2 s1 s2

theorem timesTwin_at {a b c d x y : Int} (h : Hid (a + c = x ∧ b + d = y)) (w : World) (h1 : 0 ≤ a) (h3 : 0 ≤ b) (h5 : 0 ≤ c) (h7 : 0 ≤ d) (s1 : x ≤ 1000000000) (s2 : y ≤ 1000000000) :
    Calls Try.prog 24 #[(Value.agg #[Value.int .i64 a, Value.int .i64 b]), (Value.agg #[Value.int .i64 c, Value.int .i64 d])] w fun e w' => e = .returned (Value.agg #[Value.int .i64 x, Value.int .i64 y]) ∧ Below w.heap.size w w' := by
  obtain ⟨rfl, rfl⟩ := h.out
  have := timesTwin_any a b c d w ⟨.inr (by omega), .inr (by omega), .inr (.inr ⟨s1, s2⟩)⟩
  rw [(t_fin (by omega) (by omega)).1, (t_fin (by omega) (by omega)).2] at this
  exact this

set_option maxRecDepth 100000 in
set_option maxHeartbeats 4000000 in
theorem main (a b k l xa ya xb yb xc yc : Int) (w : World) (a1 : 0 ≤ a) (a2 : a < 1000) (b1 : 0 ≤ b) (b2 : b < 1000) (k1 : 0 ≤ k) (k2 : k < 400000) (l1 : 0 ≤ l) (l2 : l < 400000)
    (n0 n1 n2 n3 : Int) (P0 : Hid (∀ w, Calls Try.prog 25 #[.int .i64 n0, .int .i64 1000] w fun e w' => e = .returned (.int .i64 a) ∧ w = w'))
    (P1 : Hid (∀ w, Calls Try.prog 25 #[.int .i64 n1, .int .i64 1000] w fun e w' => e = .returned (.int .i64 b) ∧ w = w'))
    (P2 : Hid (∀ w, Calls Try.prog 25 #[.int .i64 n2, .int .i64 400000] w fun e w' => e = .returned (.int .i64 k) ∧ w = w'))
    (P3 : Hid (∀ w, Calls Try.prog 25 #[.int .i64 n3, .int .i64 400000] w fun e w' => e = .returned (.int .i64 l) ∧ w = w'))
    (Ha : Hid (a * k = xa ∧ b * k = ya)) (Hb : Hid (a * l = xb ∧ b * l = yb)) (Hc : Hid (a * (k + l) = xc ∧ b * (k + l) = yc)) (H1 : Hid (a * 1 = a ∧ b * 1 = b)) (Hs : Hid (xa + xb = xc ∧ ya + yb = yc))
    (q1 : 0 ≤ xa) (q2 : 0 ≤ ya) (q3 : 0 ≤ xb) (q4 : 0 ≤ yb) (r1 : xc ≤ 1000000000) (r2 : yc ≤ 1000000000) (r3 : xa ≤ 1000000000) (r4 : ya ≤ 1000000000) (r5 : xb ≤ 1000000000) (r6 : yb ≤ 1000000000) :
    Calls Try.prog 8 #[.int .i64 n0, .int .i64 n1, .int .i64 n2, .int .i64 n3] w fun e w' => e = .returned (.bool true) ∧ Below w.heap.size w w' := by
  go_enter Try.func8, Try.ntmps8
  go_wp2_with fail
  refine (P0.out _).mono ?_; rintro e w' ⟨rfl, rfl⟩
  go_wp2_with fail
  refine (P1.out _).mono ?_; rintro e w' ⟨rfl, rfl⟩
  go_wp2_with fail
  refine (P2.out _).mono ?_; rintro e w' ⟨rfl, rfl⟩
  go_wp2_with fail
  refine (P3.out _).mono ?_; rintro e w' ⟨rfl, rfl⟩
  go_wp2_with fail
  refine (power_at Ha _ (by omega) (by omega) (by omega) (by omega) (by omega) (by omega) (by omega) (by omega)).mono ?_; rintro e w1 ⟨rfl, r1⟩
  obtain ⟨c1, -⟩ := bcell r1
  have y1 : w.heap.size < w1.heap.size := by have := r1.size; simp at this; omega
  go_wp2_with fail
  refine (power_at Hb _ (by omega) (by omega) (by omega) (by omega) (by omega) (by omega) (by omega) (by omega)).mono ?_; rintro e w2 ⟨rfl, r2⟩
  obtain ⟨c2, -⟩ := bcell r2
  have y2 : w.heap.size < w2.heap.size := by have := r2.size; simp at this; omega
  have y12 : w1.heap.size < w2.heap.size := by have := r2.size; simp at this; omega
  go_wp2_with fail
  refine (power_at Hc _ (by omega) (by omega) (by omega) (by omega) (by omega) (by omega) (by omega) (by omega)).mono ?_; rintro e w3 ⟨rfl, r3⟩
  obtain ⟨c3, -⟩ := bcell r3
  have y3 : w.heap.size < w3.heap.size := by have := r3.size; simp at this; omega
  have y13 : w1.heap.size < w3.heap.size := by have := r3.size; simp at this; omega
  have y23 : w2.heap.size < w3.heap.size := by have := r3.size; simp at this; omega
  go_wp2_with fail
  refine (power_at H1 _ (by omega) (by omega) (by omega) (by omega) (by omega) (by omega) (by omega) (by omega)).mono ?_; rintro e w4 ⟨rfl, r4⟩
  obtain ⟨c4, -⟩ := bcell r4
  have y4 : w.heap.size < w4.heap.size := by have := r4.size; simp at this; omega
  have y14 : w1.heap.size < w4.heap.size := by have := r4.size; simp at this; omega
  have y24 : w2.heap.size < w4.heap.size := by have := r4.size; simp at this; omega
  have y34 : w3.heap.size < w4.heap.size := by have := r4.size; simp at this; omega
  go_wp2_with fail
  have X0 : Box (w4.alloc (.cells #[.int .i64 a, .int .i64 b] 23)) w.heap.size a b := by constructor <;> simp [go_sem, *]
  have X1 : Box (w4.alloc (.cells #[.int .i64 a, .int .i64 b] 23)) w1.heap.size xa ya := by constructor <;> simp [go_sem, *]
  have X2 : Box (w4.alloc (.cells #[.int .i64 a, .int .i64 b] 23)) w2.heap.size xb yb := by constructor <;> simp [go_sem, *]
  have X3 : Box (w4.alloc (.cells #[.int .i64 a, .int .i64 b] 23)) w3.heap.size xc yc := by constructor <;> simp [go_sem, *]
  have X4 : Box (w4.alloc (.cells #[.int .i64 a, .int .i64 b] 23)) w4.heap.size a b := by constructor <;> simp [go_sem, *]
  have belW : Below w.heap.size w (w4.alloc (.cells #[.int .i64 a, .int .i64 b] 23)) :=
    ((((Below.alloc (Below.refl w.heap.size w) (Nat.le_refl _) _).trans (r1.mono (by simp))).trans ((Below.alloc (Below.refl _ _) (by omega) _).trans (r2.mono (by simp; omega)))).trans (((Below.alloc (Below.refl _ _) (by omega) _).trans (r3.mono (by simp; omega))).trans ((Below.alloc (Below.refl _ _) (by omega) _).trans (r4.mono (by simp; omega))))).alloc (by omega) _
  generalize (w4.alloc (.cells #[.int .i64 a, .int .i64 b] 23)) = W at *
  generalize w1.heap.size = g12 at *; generalize w2.heap.size = g14 at *; generalize w3.heap.size = g16 at *; generalize w4.heap.size = g18 at *
  have l0 := X0.lt; have l1 := X1.lt; have l2 := X2.lt; have l3 := X3.lt; have l4 := X4.lt
  clear c1 c2 c3 c4 r1 r2 r3 r4 P0 P1 P2 P3
  go_region_held3 (fun w' => w'.cell? ⟨w.heap.size, 0, none⟩ = some (.int .i64 a) ∧ w'.cell? ⟨w.heap.size, 1, none⟩ = some (.int .i64 b) ∧ w'.cell? ⟨g12, 0, none⟩ = some (.int .i64 xa) ∧ w'.cell? ⟨g12, 1, none⟩ = some (.int .i64 ya) ∧ w'.cell? ⟨g14, 0, none⟩ = some (.int .i64 xb) ∧ w'.cell? ⟨g14, 1, none⟩ = some (.int .i64 yb) ∧ w'.cell? ⟨g16, 0, none⟩ = some (.int .i64 xc) ∧ w'.cell? ⟨g16, 1, none⟩ = some (.int .i64 yc) ∧ w'.cell? ⟨g18, 0, none⟩ = some (.int .i64 a) ∧ w'.cell? ⟨g18, 1, none⟩ = some (.int .i64 b) ∧ Below W.heap.size W w') (first | (have q : Below W.heap.size W W.drew := (Below.refl _ _).drew; exact ⟨(X0.below q l0).1, (X0.below q l0).2, (X1.below q l1).1, (X1.below q l1).2, (X2.below q l2).1, (X2.below q l2).2, (X3.below q l3).1, (X3.below q l3).2, (X4.below q l4).1, (X4.below q l4).2, q⟩) | (go_split_ands; have q := Below.step (a := W) (by assumption) bn; exact ⟨(X0.below q l0).1, (X0.below q l0).2, (X1.below q l1).1, (X1.below q l1).2, (X2.below q l2).1, (X2.below q l2).2, (X3.below q l3).1, (X3.below q l3).2, (X4.below q l4).1, (X4.below q l4).2, q⟩)) (first | (go_at_call 24; refine (timesTwin_at Hs _ (by omega) (by omega) (by omega) (by omega) (by omega) (by omega)).mono ?_; rintro e wn ⟨rfl, bn⟩))
  all_goals
    go_wp2_with fail
    go_ret
    exact ⟨rfl, belW.trans (Below.mono (by go_split_ands; assumption) (by have := l0; omega))⟩

theorem walk {w : World} (x0 : Int) (w0 : (Lit.int .i64 x0).wf = true) (x1 : Int) (w1 : (Lit.int .i64 x1).wf = true) (x2 : Int) (w2 : (Lit.int .i64 x2).wf = true) (x3 : Int) (w3 : (Lit.int .i64 x3).wf = true) :
    Calls Try.prog 8 #[.int .i64 x0, .int .i64 x1, .int .i64 x2, .int .i64 x3] w fun e w' => e = .returned (.bool true) ∧ Below w.heap.size w w' := by
  obtain ⟨a1, a2⟩ := wf_i64 w0; obtain ⟨b1, b2⟩ := wf_i64 w1; obtain ⟨c1, c2⟩ := wf_i64 w2; obtain ⟨d1, d2⟩ := wf_i64 w3
  have pa := pick_lo x0 1000 (by omega); have pb := pick_lo x1 1000 (by omega); have pk := pick_lo x2 400000 (by omega); have pl := pick_lo x3 400000 (by omega)
  have qa := pick_hi x0 1000 (by omega); have qb := pick_hi x1 1000 (by omega); have qk := pick_hi x2 400000 (by omega); have ql := pick_hi x3 400000 (by omega)
  have P0 := Lib.hid (fun w => picked_any x0 1000 w a1 a2 (by omega) (by omega))
  have P1 := Lib.hid (fun w => picked_any x1 1000 w b1 b2 (by omega) (by omega))
  have P2 := Lib.hid (fun w => picked_any x2 400000 w c1 c2 (by omega) (by omega))
  have P3 := Lib.hid (fun w => picked_any x3 400000 w d1 d2 (by omega) (by omega))
  generalize pick x0 1000 = a at *; generalize pick x1 1000 = b at *; generalize pick x2 400000 = k at *; generalize pick x3 400000 = l at *
  have m : ∀ u v : Int, 0 ≤ u → u < 1000 → 0 ≤ v → v ≤ 800000 → 0 ≤ u * v ∧ u * v ≤ 999 * 800000 := fun u v h1 h2 h3 h4 => ⟨Int.mul_nonneg h1 h3, mul_le u v 999 800000 (by omega) h3 h4 (by omega)⟩
  have ma := m a k pa qa pk (by omega); have ma2 := m b k pb qb pk (by omega); have mb := m a l pa qa pl (by omega); have mb2 := m b l pb qb pl (by omega)
  have mc := m a (k + l) pa qa (by omega) (by omega); have mc2 := m b (k + l) pb qb (by omega) (by omega)
  exact main a b k l _ _ _ _ _ _ w pa qa pb qb pk qk pl ql x0 x1 x2 x3 P0 P1 P2 P3 (Lib.hid ⟨rfl, rfl⟩) (Lib.hid ⟨rfl, rfl⟩) (Lib.hid ⟨rfl, rfl⟩) (Lib.hid ⟨Int.mul_one _, Int.mul_one _⟩) (Lib.hid ⟨(Int.mul_add _ _ _).symm, (Int.mul_add _ _ _).symm⟩)
    ma.1 ma2.1 mb.1 mb2.1 (by omega) (by omega) (by omega) (by omega) (by omega) (by omega)
end powerAdds
end Go.Proofs.Ytgepgokaodcpcaa
