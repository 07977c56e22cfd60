/- Twins: Less, may, times, Times (without Plus). -/
import Derived.Test.YtikkmoleneioeaaSlices
import Derived.RegionTactic
namespace Go.Proofs.Ytikkmoleneioeaa
open Go.ChangeShapes Go.WideShapes Go.ChangeAt Go.RowKit

/-- does (a, b) count ahead of (c, d)? -/
def lessB (a b c d : Int) : Bool := decide (a < c ∨ a = c ∧ b < d)

theorem Less_any (a b c d : Int) (w : World) :
    Calls Try.prog 60 #[.agg #[.int .i64 a, .int .i64 b], .agg #[.int .i64 c, .int .i64 d]] w fun e w' => e = .returned (.bool (lessB a b c d)) ∧ Below w.heap.size w w' := by
  have bel : Below w.heap.size w ((w.alloc (.cells #[.int .i64 a, .int .i64 b] 99)).alloc (.cells #[.int .i64 c, .int .i64 d] 99)) := ((Below.refl _ _).alloc (Nat.le_refl _) _).alloc (by simp) _
  by_cases h1 : a < c
  · have hp : lessB a b c d = true := by unfold lessB; simp [h1]
    have H := Lib.hid hp; clear hp
    go_enter Try.func60, Try.ntmps60
    go_wp2
    go_ret
    rw [H.out]
    exact ⟨rfl, bel⟩
  · by_cases h2 : a = c
    · subst h2
      by_cases h3 : b < d
      · have hp : lessB a b a d = true := by unfold lessB; simp [h3]
        have H := Lib.hid hp; clear hp
        go_enter Try.func60, Try.ntmps60
        go_wp2
        go_ret
        rw [H.out]
        exact ⟨rfl, bel⟩
      · have hp : lessB a b a d = false := by unfold lessB; simp; omega
        have h4 : decide (b < d) = false := by simpa using h3
        have H := Lib.hid hp; clear hp
        go_enter Try.func60, Try.ntmps60
        go_wp2
        go_ret
        rw [H.out]
        exact ⟨rfl, bel⟩
    · have hp : lessB a b c d = false := by unfold lessB; simp; omega
      have h4 : decide (a < c) = false := by simpa using h1
      have h5 : (a == c) = false := by simpa using h2
      have H := Lib.hid hp; clear hp
      go_enter Try.func60, Try.ntmps60
      go_wp2
      go_ret
      rw [H.out]
      exact ⟨rfl, bel⟩

/-- a twin that may be -/
def TwOk (a b : Int) : Prop := (a = 1000000001 ∧ b = 1000000001) ∨ (0 ≤ a ∧ a ≤ 1000000000 ∧ 0 ≤ b ∧ b ≤ 1000000000)

theorem twmay_yes (a b : Int) (w : World) (h : TwOk a b) :
    Calls Try.prog 61 #[.agg #[.int .i64 a, .int .i64 b]] w fun e w' => e = .returned (.bool true) ∧ Below w.heap.size w w' := by
  have bel : Below w.heap.size w (w.alloc (.cells #[.int .i64 a, .int .i64 b] 99)) := (Below.refl _ _).alloc (Nat.le_refl _) _
  rcases h with ⟨rfl, rfl⟩ | ⟨h1, h2, h3, h4⟩
  · go_enter Try.func61, Try.ntmps61
    go_wp2
    go_ret
    exact ⟨rfl, bel⟩
  · have g1 : (a == 1000000001) = false := by simp; omega
    have g2 : (b == 1000000001) = false := by simp; omega
    go_enter Try.func61, Try.ntmps61
    go_wp2
    go_ret
    exact ⟨rfl, bel⟩

theorem twtimes_inf (a b c d : Int) (w : World) (h : (a = 1000000001 ∧ b = 1000000001) ∨ (c = 1000000001 ∧ d = 1000000001)) :
    Calls Try.prog 62 #[.agg #[], (Value.agg #[Value.int .i64 a, Value.int .i64 b]), (Value.agg #[Value.int .i64 c, Value.int .i64 d])] w fun e w' => e = .returned (.tuple #[(Value.agg #[Value.int .i64 1000000001, Value.int .i64 1000000001]), .bool true]) ∧ Below w.heap.size w w' := by
  by_cases h1 : a = 1000000001 ∧ b = 1000000001
  · obtain ⟨rfl, rfl⟩ := h1
    clear h
    go_enter Try.func62, Try.ntmps62
    go_wp2
    exact bodyPost_ret (v := .tuple #[(Value.agg #[Value.int .i64 1000000001, Value.int .i64 1000000001]), .bool true]) (by simp [results, Try.results62, go_sem]) rfl ⟨rfl, (by repeat' (first | exact Below.refl _ _ | assumption | refine Below.drew ?_ | refine Below.alloc ?_ (by first | omega | (simp; done) | (simp; omega)) _ | refine Below.setCell ?_ (by first | omega | (simp; done) | (simp; omega)) _))⟩
  · have h2 : c = 1000000001 ∧ d = 1000000001 := by omega
    obtain ⟨rfl, rfl⟩ := h2
    clear h
    go_enter Try.func62, Try.ntmps62
    go_wp2
    all_goals
      exact bodyPost_ret (v := .tuple #[(Value.agg #[Value.int .i64 1000000001, Value.int .i64 1000000001]), .bool true]) (by simp [results, Try.results62, go_sem]) rfl ⟨rfl, (by repeat' (first | exact Below.refl _ _ | assumption | refine Below.drew ?_ | refine Below.alloc ?_ (by first | omega | (simp; done) | (simp; omega)) _ | refine Below.setCell ?_ (by first | omega | (simp; done) | (simp; omega)) _))⟩

theorem twtimes_ok (a b c d : Int) (w : World) (h1 : 0 ≤ a) (h2 : a ≤ 1000000000) (h3 : 0 ≤ b) (h4 : b ≤ 1000000000) (k1 : 0 ≤ c) (k2 : c ≤ 1000000000) (k3 : 0 ≤ d) (k4 : d ≤ 1000000000) (s1 : a + c ≤ 1000000000) (s2 : b + d ≤ 1000000000) :
    Calls Try.prog 62 #[.agg #[], (Value.agg #[Value.int .i64 a, Value.int .i64 b]), (Value.agg #[Value.int .i64 c, Value.int .i64 d])] w fun e w' => e = .returned (.tuple #[(Value.agg #[Value.int .i64 (a + c), Value.int .i64 (b + d)]), .bool true]) ∧ Below w.heap.size w w' := by
  have g1 : (a == 1000000001) = false := by simp; omega
  have g2 : (b == 1000000001) = false := by simp; omega
  have g3 : (c == 1000000001) = false := by simp; omega
  have g4 : (d == 1000000001) = false := by simp; omega
  go_enter Try.func62, Try.ntmps62
  go_wp2
  go_region
  all_goals
    go_wp2
    exact bodyPost_ret (v := .tuple #[(Value.agg #[Value.int .i64 (a + c), Value.int .i64 (b + d)]), .bool true]) (by simp [results, Try.results62, go_sem]) rfl ⟨rfl, (by repeat' (first | exact Below.refl _ _ | assumption | refine Below.drew ?_ | refine Below.alloc ?_ (by first | omega | (simp; done) | (simp; omega)) _ | refine Below.setCell ?_ (by first | omega | (simp; done) | (simp; omega)) _))⟩

/-- one twin behind the other -/
def tA (a b c d : Int) : Int := if (a = 1000000001 ∧ b = 1000000001) ∨ (c = 1000000001 ∧ d = 1000000001) then 1000000001 else a + c
def tB (a b c d : Int) : Int := if (a = 1000000001 ∧ b = 1000000001) ∨ (c = 1000000001 ∧ d = 1000000001) then 1000000001 else b + d

/-- two twins that can be put one behind the other -/
def TwFits (a b c d : Int) : Prop := TwOk a b ∧ TwOk c d ∧ ((a = 1000000001 ∧ b = 1000000001) ∨ (c = 1000000001 ∧ d = 1000000001) ∨ (a + c ≤ 1000000000 ∧ b + d ≤ 1000000000))

theorem twtimes_any (a b c d : Int) (w : World) (h : TwFits a b c d) :
    Calls Try.prog 62 #[.agg #[], (Value.agg #[Value.int .i64 a, Value.int .i64 b]), (Value.agg #[Value.int .i64 c, Value.int .i64 d])] w fun e w' => e = .returned (.tuple #[(Value.agg #[Value.int .i64 (tA a b c d), Value.int .i64 (tB a b c d)]), .bool true]) ∧ Below w.heap.size w w' := by
  obtain ⟨h1, h2, h3⟩ := h
  by_cases hi : (a = 1000000001 ∧ b = 1000000001) ∨ (c = 1000000001 ∧ d = 1000000001)
  · have eA : tA a b c d = 1000000001 := by unfold tA; rw [if_pos hi]
    have eB : tB a b c d = 1000000001 := by unfold tB; rw [if_pos hi]
    rw [eA, eB]
    exact twtimes_inf a b c d w hi
  · have eA : tA a b c d = a + c := by unfold tA; rw [if_neg hi]
    have eB : tB a b c d = b + d := by unfold tB; rw [if_neg hi]
    rw [eA, eB]
    unfold TwOk at h1 h2
    exact twtimes_ok a b c d w (by omega) (by omega) (by omega) (by omega) (by omega) (by omega) (by omega) (by omega) (by omega) (by omega)

theorem twTimes_ok (a b c d : Int) (w : World) (h : TwFits a b c d) :
    Calls Try.prog 40 #[(Value.agg #[Value.int .i64 a, Value.int .i64 b]), (Value.agg #[Value.int .i64 c, Value.int .i64 d])] w fun e w' => e = .returned (.tuple #[(Value.agg #[Value.int .i64 (tA a b c d), Value.int .i64 (tB a b c d)]), .int .i64 0]) ∧ Below w.heap.size w w' := by
  have h1 := h.1
  have h2 := h.2.1
  go_enter Try.func40, Try.ntmps40
  go_wp2_with fail
  refine (twmay_yes _ _ _ h1).mono ?_; rintro e w1 ⟨rfl, bel⟩; obtain ⟨c1, f1⟩ := bcell bel; have z1 := bel.size; simp at z1; (try have y0 : w.heap.size < w1.heap.size := by omega); (try have y1 : w.heap.size + 1 < w1.heap.size := by omega); (try have y2 : w.heap.size + 1 + 1 < w1.heap.size := by omega); (try have y3 : w.heap.size + 1 + 1 + 1 < w1.heap.size := by omega); (try have y4 : w.heap.size + 1 + 1 + 1 + 1 < w1.heap.size := by omega); (try have y5 : w.heap.size + 1 + 1 + 1 + 1 + 1 < w1.heap.size := by omega); (try have y6 : w.heap.size + 1 + 1 + 1 + 1 + 1 + 1 < w1.heap.size := by omega)
  go_wp2_with fail
  refine (twmay_yes _ _ _ h2).mono ?_; rintro e w2 ⟨rfl, b2⟩; replace bel := Below.step bel b2; clear b2 c1 f1; obtain ⟨c1, f1⟩ := bcell bel; have z1 := bel.size; simp at z1; (try have y0 : w.heap.size < w2.heap.size := by omega); (try have y1 : w.heap.size + 1 < w2.heap.size := by omega); (try have y2 : w.heap.size + 1 + 1 < w2.heap.size := by omega); (try have y3 : w.heap.size + 1 + 1 + 1 < w2.heap.size := by omega); (try have y4 : w.heap.size + 1 + 1 + 1 + 1 < w2.heap.size := by omega); (try have y5 : w.heap.size + 1 + 1 + 1 + 1 + 1 < w2.heap.size := by omega); (try have y6 : w.heap.size + 1 + 1 + 1 + 1 + 1 + 1 < w2.heap.size := by omega)
  go_wp2_with fail
  refine (twtimes_any _ _ _ _ _ h).mono ?_; rintro e w2 ⟨rfl, b2⟩; replace bel := Below.step bel b2; clear b2 c1 f1; obtain ⟨c1, f1⟩ := bcell bel; have z1 := bel.size; simp at z1; (try have y0 : w.heap.size < w2.heap.size := by omega); (try have y1 : w.heap.size + 1 < w2.heap.size := by omega); (try have y2 : w.heap.size + 1 + 1 < w2.heap.size := by omega); (try have y3 : w.heap.size + 1 + 1 + 1 < w2.heap.size := by omega); (try have y4 : w.heap.size + 1 + 1 + 1 + 1 < w2.heap.size := by omega); (try have y5 : w.heap.size + 1 + 1 + 1 + 1 + 1 < w2.heap.size := by omega); (try have y6 : w.heap.size + 1 + 1 + 1 + 1 + 1 + 1 < w2.heap.size := by omega)
  go_wp2_with fail
  exact bodyPost_ret (v := .tuple #[(Value.agg #[Value.int .i64 (tA a b c d), Value.int .i64 (tB a b c d)]), .int .i64 0]) (by simp [results, Try.results40, go_sem, *]) rfl ⟨rfl, (by repeat' (first | exact Below.refl _ _ | assumption | refine Below.step ?_ bel | refine Below.drew ?_ | refine Below.alloc ?_ (by first | omega | (simp; done) | (simp; omega)) _ | refine Below.setCell ?_ (by first | omega | (simp; done) | (simp; omega)) _))⟩

end Go.Proofs.Ytikkmoleneioeaa
