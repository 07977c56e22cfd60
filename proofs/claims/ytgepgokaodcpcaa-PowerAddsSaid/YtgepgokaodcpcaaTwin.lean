/- Twins: Less, may, times, Plus, Times. -/
import Derived.Test.YtgepgokaodcpcaaNum
import Derived.Below
namespace Go.Proofs.Ytgepgokaodcpcaa
open Go.ChangeShapes Go.WideShapes Go.ChangeAt Go.RowKit

/-- does (a, b) count ahead of (c, d)? -/
def lessB (a b c d : Int) : Bool := decide (a < c ∨ a = c ∧ b < d)

theorem Less_any (a b c d : Int) (w : World) :
    Calls Try.prog 15 #[.agg #[.int .i64 a, .int .i64 b], .agg #[.int .i64 c, .int .i64 d]] w fun e w' => e = .returned (.bool (lessB a b c d)) ∧ Below w.heap.size w w' := by
  have bel : Below w.heap.size w ((w.alloc (.cells #[.int .i64 a, .int .i64 b] 23)).alloc (.cells #[.int .i64 c, .int .i64 d] 23)) := ((Below.refl _ _).alloc (Nat.le_refl _) _).alloc (by simp) _
  by_cases h1 : a < c
  · have hp : lessB a b c d = true := by unfold lessB; simp [h1]
    have H := Lib.hid hp; clear hp
    go_enter Try.func15, Try.ntmps15
    go_wp2
    go_ret
    rw [H.out]
    exact ⟨rfl, bel⟩
  · by_cases h2 : a = c
    · subst h2
      by_cases h3 : b < d
      · have hp : lessB a b a d = true := by unfold lessB; simp [h3]
        have H := Lib.hid hp; clear hp
        go_enter Try.func15, Try.ntmps15
        go_wp2
        go_ret
        rw [H.out]
        exact ⟨rfl, bel⟩
      · have hp : lessB a b a d = false := by unfold lessB; simp; omega
        have h4 : decide (b < d) = false := by simpa using h3
        have H := Lib.hid hp; clear hp
        go_enter Try.func15, Try.ntmps15
        go_wp2
        go_ret
        rw [H.out]
        exact ⟨rfl, bel⟩
    · have hp : lessB a b c d = false := by unfold lessB; simp; omega
      have h4 : decide (a < c) = false := by simpa using h1
      have h5 : (a == c) = false := by simpa using h2
      have H := Lib.hid hp; clear hp
      go_enter Try.func15, Try.ntmps15
      go_wp2
      go_ret
      rw [H.out]
      exact ⟨rfl, bel⟩

/-- a twin that may be -/
def TwOk (a b : Int) : Prop := (a = 1000000001 ∧ b = 1000000001) ∨ (0 ≤ a ∧ a ≤ 1000000000 ∧ 0 ≤ b ∧ b ≤ 1000000000)

theorem twmay_yes (a b : Int) (w : World) (h : TwOk a b) :
    Calls Try.prog 49 #[.agg #[.int .i64 a, .int .i64 b]] w fun e w' => e = .returned (.bool true) ∧ Below w.heap.size w w' := by
  have bel : Below w.heap.size w (w.alloc (.cells #[.int .i64 a, .int .i64 b] 23)) := (Below.refl _ _).alloc (Nat.le_refl _) _
  rcases h with ⟨rfl, rfl⟩ | ⟨h1, h2, h3, h4⟩
  · go_enter Try.func49, Try.ntmps49
    go_wp2
    go_ret
    exact ⟨rfl, bel⟩
  · have g1 : (a == 1000000001) = false := by simp; omega
    have g2 : (b == 1000000001) = false := by simp; omega
    go_enter Try.func49, Try.ntmps49
    go_wp2
    go_ret
    exact ⟨rfl, bel⟩

theorem twtimes_inf (a b c d : Int) (w : World) (h : (a = 1000000001 ∧ b = 1000000001) ∨ (c = 1000000001 ∧ d = 1000000001)) :
    Calls Try.prog 68 #[.agg #[], (Value.agg #[Value.int .i64 a, Value.int .i64 b]), (Value.agg #[Value.int .i64 c, Value.int .i64 d])] w fun e w' => e = .returned (.tuple #[(Value.agg #[Value.int .i64 1000000001, Value.int .i64 1000000001]), .bool true]) ∧ Below w.heap.size w w' := by
  by_cases h1 : a = 1000000001 ∧ b = 1000000001
  · obtain ⟨rfl, rfl⟩ := h1
    clear h
    go_enter Try.func68, Try.ntmps68
    go_wp2
    exact bodyPost_ret (v := .tuple #[(Value.agg #[Value.int .i64 1000000001, Value.int .i64 1000000001]), .bool true]) (by simp [results, Try.results68, go_sem]) rfl ⟨rfl, (by repeat' (first | exact Below.refl _ _ | assumption | refine Below.drew ?_ | refine Below.alloc ?_ (by simp; try omega) _ | refine Below.setCell ?_ (by simp; try omega) _))⟩
  · have h2 : c = 1000000001 ∧ d = 1000000001 := by omega
    obtain ⟨rfl, rfl⟩ := h2
    clear h
    go_enter Try.func68, Try.ntmps68
    go_wp2
    all_goals
      exact bodyPost_ret (v := .tuple #[(Value.agg #[Value.int .i64 1000000001, Value.int .i64 1000000001]), .bool true]) (by simp [results, Try.results68, go_sem]) rfl ⟨rfl, (by repeat' (first | exact Below.refl _ _ | assumption | refine Below.drew ?_ | refine Below.alloc ?_ (by simp; try omega) _ | refine Below.setCell ?_ (by simp; try omega) _))⟩

theorem twtimes_ok (a b c d : Int) (w : World) (h1 : 0 ≤ a) (h2 : a ≤ 1000000000) (h3 : 0 ≤ b) (h4 : b ≤ 1000000000) (k1 : 0 ≤ c) (k2 : c ≤ 1000000000) (k3 : 0 ≤ d) (k4 : d ≤ 1000000000) (s1 : a + c ≤ 1000000000) (s2 : b + d ≤ 1000000000) :
    Calls Try.prog 68 #[.agg #[], (Value.agg #[Value.int .i64 a, Value.int .i64 b]), (Value.agg #[Value.int .i64 c, Value.int .i64 d])] w fun e w' => e = .returned (.tuple #[(Value.agg #[Value.int .i64 (a + c), Value.int .i64 (b + d)]), .bool true]) ∧ Below w.heap.size w w' := by
  have g1 : (a == 1000000001) = false := by simp; omega
  have g2 : (b == 1000000001) = false := by simp; omega
  have g3 : (c == 1000000001) = false := by simp; omega
  have g4 : (d == 1000000001) = false := by simp; omega
  go_enter Try.func68, Try.ntmps68
  go_wp2
  go_region
  all_goals
    go_wp2
    exact bodyPost_ret (v := .tuple #[(Value.agg #[Value.int .i64 (a + c), Value.int .i64 (b + d)]), .bool true]) (by simp [results, Try.results68, go_sem]) rfl ⟨rfl, (by repeat' (first | exact Below.refl _ _ | assumption | refine Below.drew ?_ | refine Below.alloc ?_ (by simp; try omega) _ | refine Below.setCell ?_ (by simp; try omega) _))⟩

theorem bcell {W w1 : World} (hb : Below W.heap.size W w1) : (∀ b o, b < W.heap.size → w1.cell? ⟨b, o, none⟩ = W.cell? ⟨b, o, none⟩) ∧ (∀ b o, b < W.heap.size → w1.frozen? ⟨b, o, none⟩ = W.frozen? ⟨b, o, none⟩) :=
  ⟨fun b o h => hb.cell (p := ⟨b, o, none⟩) h, fun b o h => hb.frozen (p := ⟨b, o, none⟩) h⟩

theorem Below.step {a b c : World} (h : Below a.heap.size a b) (k : Below b.heap.size b c) : Below a.heap.size a c := h.trans (k.mono h.size)

theorem twPlus_ok (a b c d : Int) (w : World) (h : TwOk a b) (k : TwOk c d) :
    Calls Try.prog 47 #[(Value.agg #[Value.int .i64 a, Value.int .i64 b]), (Value.agg #[Value.int .i64 c, Value.int .i64 d])] w fun e w' => e = .returned (.tuple #[if lessB c d a b = true then (Value.agg #[Value.int .i64 c, Value.int .i64 d]) else (Value.agg #[Value.int .i64 a, Value.int .i64 b]), .int .i64 0]) ∧ Below w.heap.size w w' := by
  cases hl : lessB c d a b
  · have HL := Lib.hid hl; clear hl
    go_enter Try.func47, Try.ntmps47
    go_wp2_with fail
    refine (twmay_yes _ _ _ h).mono ?_; rintro e w1 ⟨rfl, bel⟩; obtain ⟨c1, f1⟩ := bcell bel; have z1 := bel.size; simp at z1; (try have y0 : w.heap.size < w1.heap.size := by omega); (try have y1 : w.heap.size + 1 < w1.heap.size := by omega); (try have y2 : w.heap.size + 1 + 1 < w1.heap.size := by omega); (try have y3 : w.heap.size + 1 + 1 + 1 < w1.heap.size := by omega); (try have y4 : w.heap.size + 1 + 1 + 1 + 1 < w1.heap.size := by omega); (try have y5 : w.heap.size + 1 + 1 + 1 + 1 + 1 < w1.heap.size := by omega); (try have y6 : w.heap.size + 1 + 1 + 1 + 1 + 1 + 1 < w1.heap.size := by omega)
    go_wp2_with fail
    refine (twmay_yes _ _ _ k).mono ?_; rintro e w2 ⟨rfl, b2⟩; replace bel := Below.step bel b2; clear b2 c1 f1; obtain ⟨c1, f1⟩ := bcell bel; have z1 := bel.size; simp at z1; (try have y0 : w.heap.size < w2.heap.size := by omega); (try have y1 : w.heap.size + 1 < w2.heap.size := by omega); (try have y2 : w.heap.size + 1 + 1 < w2.heap.size := by omega); (try have y3 : w.heap.size + 1 + 1 + 1 < w2.heap.size := by omega); (try have y4 : w.heap.size + 1 + 1 + 1 + 1 < w2.heap.size := by omega); (try have y5 : w.heap.size + 1 + 1 + 1 + 1 + 1 < w2.heap.size := by omega); (try have y6 : w.heap.size + 1 + 1 + 1 + 1 + 1 + 1 < w2.heap.size := by omega)
    go_wp2_with fail
    refine (Less_any _ _ _ _ _).mono ?_; rintro e w2 ⟨rfl, b2⟩; replace bel := Below.step bel b2; clear b2 c1 f1; obtain ⟨c1, f1⟩ := bcell bel; have z1 := bel.size; simp at z1; (try have y0 : w.heap.size < w2.heap.size := by omega); (try have y1 : w.heap.size + 1 < w2.heap.size := by omega); (try have y2 : w.heap.size + 1 + 1 < w2.heap.size := by omega); (try have y3 : w.heap.size + 1 + 1 + 1 < w2.heap.size := by omega); (try have y4 : w.heap.size + 1 + 1 + 1 + 1 < w2.heap.size := by omega); (try have y5 : w.heap.size + 1 + 1 + 1 + 1 + 1 < w2.heap.size := by omega); (try have y6 : w.heap.size + 1 + 1 + 1 + 1 + 1 + 1 < w2.heap.size := by omega)
    rw [HL.out]
    go_wp2_with fail
    exact bodyPost_ret (v := .tuple #[(Value.agg #[Value.int .i64 a, Value.int .i64 b]), .int .i64 0]) (by simp [results, Try.results47, go_sem, *]) rfl ⟨rfl, (by repeat' (first | exact Below.refl _ _ | assumption | refine Below.step ?_ bel | refine Below.drew ?_ | refine Below.alloc ?_ (by simp; try omega) _ | refine Below.setCell ?_ (by simp; try omega) _))⟩
  · have HL := Lib.hid hl; clear hl
    go_enter Try.func47, Try.ntmps47
    go_wp2_with fail
    refine (twmay_yes _ _ _ h).mono ?_; rintro e w1 ⟨rfl, bel⟩; obtain ⟨c1, f1⟩ := bcell bel; have z1 := bel.size; simp at z1; (try have y0 : w.heap.size < w1.heap.size := by omega); (try have y1 : w.heap.size + 1 < w1.heap.size := by omega); (try have y2 : w.heap.size + 1 + 1 < w1.heap.size := by omega); (try have y3 : w.heap.size + 1 + 1 + 1 < w1.heap.size := by omega); (try have y4 : w.heap.size + 1 + 1 + 1 + 1 < w1.heap.size := by omega); (try have y5 : w.heap.size + 1 + 1 + 1 + 1 + 1 < w1.heap.size := by omega); (try have y6 : w.heap.size + 1 + 1 + 1 + 1 + 1 + 1 < w1.heap.size := by omega)
    go_wp2_with fail
    refine (twmay_yes _ _ _ k).mono ?_; rintro e w2 ⟨rfl, b2⟩; replace bel := Below.step bel b2; clear b2 c1 f1; obtain ⟨c1, f1⟩ := bcell bel; have z1 := bel.size; simp at z1; (try have y0 : w.heap.size < w2.heap.size := by omega); (try have y1 : w.heap.size + 1 < w2.heap.size := by omega); (try have y2 : w.heap.size + 1 + 1 < w2.heap.size := by omega); (try have y3 : w.heap.size + 1 + 1 + 1 < w2.heap.size := by omega); (try have y4 : w.heap.size + 1 + 1 + 1 + 1 < w2.heap.size := by omega); (try have y5 : w.heap.size + 1 + 1 + 1 + 1 + 1 < w2.heap.size := by omega); (try have y6 : w.heap.size + 1 + 1 + 1 + 1 + 1 + 1 < w2.heap.size := by omega)
    go_wp2_with fail
    refine (Less_any _ _ _ _ _).mono ?_; rintro e w2 ⟨rfl, b2⟩; replace bel := Below.step bel b2; clear b2 c1 f1; obtain ⟨c1, f1⟩ := bcell bel; have z1 := bel.size; simp at z1; (try have y0 : w.heap.size < w2.heap.size := by omega); (try have y1 : w.heap.size + 1 < w2.heap.size := by omega); (try have y2 : w.heap.size + 1 + 1 < w2.heap.size := by omega); (try have y3 : w.heap.size + 1 + 1 + 1 < w2.heap.size := by omega); (try have y4 : w.heap.size + 1 + 1 + 1 + 1 < w2.heap.size := by omega); (try have y5 : w.heap.size + 1 + 1 + 1 + 1 + 1 < w2.heap.size := by omega); (try have y6 : w.heap.size + 1 + 1 + 1 + 1 + 1 + 1 < w2.heap.size := by omega)
    rw [HL.out]
    go_wp2_with fail
    exact bodyPost_ret (v := .tuple #[(Value.agg #[Value.int .i64 c, Value.int .i64 d]), .int .i64 0]) (by simp [results, Try.results47, go_sem, *]) rfl ⟨rfl, (by repeat' (first | exact Below.refl _ _ | assumption | refine Below.step ?_ bel | refine Below.drew ?_ | refine Below.alloc ?_ (by simp; try omega) _ | refine Below.setCell ?_ (by simp; try omega) _))⟩

/-- the lesser of two twins -/
def pA (a b c d : Int) : Int := if lessB c d a b then c else a
def pB (a b c d : Int) : Int := if lessB c d a b then d else b
/-- one twin behind the other -/
def tA (a b c d : Int) : Int := if (a = 1000000001 ∧ b = 1000000001) ∨ (c = 1000000001 ∧ d = 1000000001) then 1000000001 else a + c
def tB (a b c d : Int) : Int := if (a = 1000000001 ∧ b = 1000000001) ∨ (c = 1000000001 ∧ d = 1000000001) then 1000000001 else b + d

/-- two twins that can be put one behind the other -/
def TwFits (a b c d : Int) : Prop := TwOk a b ∧ TwOk c d ∧ ((a = 1000000001 ∧ b = 1000000001) ∨ (c = 1000000001 ∧ d = 1000000001) ∨ (a + c ≤ 1000000000 ∧ b + d ≤ 1000000000))

theorem twtimes_any (a b c d : Int) (w : World) (h : TwFits a b c d) :
    Calls Try.prog 68 #[.agg #[], (Value.agg #[Value.int .i64 a, Value.int .i64 b]), (Value.agg #[Value.int .i64 c, Value.int .i64 d])] w fun e w' => e = .returned (.tuple #[(Value.agg #[Value.int .i64 (tA a b c d), Value.int .i64 (tB a b c d)]), .bool true]) ∧ Below w.heap.size w w' := by
  obtain ⟨h1, h2, h3⟩ := h
  by_cases hi : (a = 1000000001 ∧ b = 1000000001) ∨ (c = 1000000001 ∧ d = 1000000001)
  · have eA : tA a b c d = 1000000001 := by unfold tA; rw [if_pos hi]
    have eB : tB a b c d = 1000000001 := by unfold tB; rw [if_pos hi]
    rw [eA, eB]
    exact twtimes_inf a b c d w hi
  · have eA : tA a b c d = a + c := by unfold tA; rw [if_neg hi]
    have eB : tB a b c d = b + d := by unfold tB; rw [if_neg hi]
    rw [eA, eB]
    unfold TwOk at h1 h2
    exact twtimes_ok a b c d w (by omega) (by omega) (by omega) (by omega) (by omega) (by omega) (by omega) (by omega) (by omega) (by omega)

theorem twTimes_ok (a b c d : Int) (w : World) (h : TwFits a b c d) :
    Calls Try.prog 48 #[(Value.agg #[Value.int .i64 a, Value.int .i64 b]), (Value.agg #[Value.int .i64 c, Value.int .i64 d])] w fun e w' => e = .returned (.tuple #[(Value.agg #[Value.int .i64 (tA a b c d), Value.int .i64 (tB a b c d)]), .int .i64 0]) ∧ Below w.heap.size w w' := by
  have h1 := h.1
  have h2 := h.2.1
  go_enter Try.func48, Try.ntmps48
  go_wp2_with fail
  refine (twmay_yes _ _ _ h1).mono ?_; rintro e w1 ⟨rfl, bel⟩; obtain ⟨c1, f1⟩ := bcell bel; have z1 := bel.size; simp at z1; (try have y0 : w.heap.size < w1.heap.size := by omega); (try have y1 : w.heap.size + 1 < w1.heap.size := by omega); (try have y2 : w.heap.size + 1 + 1 < w1.heap.size := by omega); (try have y3 : w.heap.size + 1 + 1 + 1 < w1.heap.size := by omega); (try have y4 : w.heap.size + 1 + 1 + 1 + 1 < w1.heap.size := by omega); (try have y5 : w.heap.size + 1 + 1 + 1 + 1 + 1 < w1.heap.size := by omega); (try have y6 : w.heap.size + 1 + 1 + 1 + 1 + 1 + 1 < w1.heap.size := by omega)
  go_wp2_with fail
  refine (twmay_yes _ _ _ h2).mono ?_; rintro e w2 ⟨rfl, b2⟩; replace bel := Below.step bel b2; clear b2 c1 f1; obtain ⟨c1, f1⟩ := bcell bel; have z1 := bel.size; simp at z1; (try have y0 : w.heap.size < w2.heap.size := by omega); (try have y1 : w.heap.size + 1 < w2.heap.size := by omega); (try have y2 : w.heap.size + 1 + 1 < w2.heap.size := by omega); (try have y3 : w.heap.size + 1 + 1 + 1 < w2.heap.size := by omega); (try have y4 : w.heap.size + 1 + 1 + 1 + 1 < w2.heap.size := by omega); (try have y5 : w.heap.size + 1 + 1 + 1 + 1 + 1 < w2.heap.size := by omega); (try have y6 : w.heap.size + 1 + 1 + 1 + 1 + 1 + 1 < w2.heap.size := by omega)
  go_wp2_with fail
  refine (twtimes_any _ _ _ _ _ h).mono ?_; rintro e w2 ⟨rfl, b2⟩; replace bel := Below.step bel b2; clear b2 c1 f1; obtain ⟨c1, f1⟩ := bcell bel; have z1 := bel.size; simp at z1; (try have y0 : w.heap.size < w2.heap.size := by omega); (try have y1 : w.heap.size + 1 < w2.heap.size := by omega); (try have y2 : w.heap.size + 1 + 1 < w2.heap.size := by omega); (try have y3 : w.heap.size + 1 + 1 + 1 < w2.heap.size := by omega); (try have y4 : w.heap.size + 1 + 1 + 1 + 1 < w2.heap.size := by omega); (try have y5 : w.heap.size + 1 + 1 + 1 + 1 + 1 < w2.heap.size := by omega); (try have y6 : w.heap.size + 1 + 1 + 1 + 1 + 1 + 1 < w2.heap.size := by omega)
  go_wp2_with fail
  exact bodyPost_ret (v := .tuple #[(Value.agg #[Value.int .i64 (tA a b c d), Value.int .i64 (tB a b c d)]), .int .i64 0]) (by simp [results, Try.results48, go_sem, *]) rfl ⟨rfl, (by repeat' (first | exact Below.refl _ _ | assumption | refine Below.step ?_ bel | refine Below.drew ?_ | refine Below.alloc ?_ (by simp; try omega) _ | refine Below.setCell ?_ (by simp; try omega) _))⟩

theorem twPlus_ok' (a b c d : Int) (w : World) (h : TwOk a b) (k : TwOk c d) :
    Calls Try.prog 47 #[(Value.agg #[Value.int .i64 a, Value.int .i64 b]), (Value.agg #[Value.int .i64 c, Value.int .i64 d])] w fun e w' => e = .returned (.tuple #[(Value.agg #[Value.int .i64 (pA a b c d), Value.int .i64 (pB a b c d)]), .int .i64 0]) ∧ Below w.heap.size w w' := by
  have hp : (if lessB c d a b = true then (Value.agg #[Value.int .i64 c, Value.int .i64 d]) else (Value.agg #[Value.int .i64 a, Value.int .i64 b])) = (Value.agg #[Value.int .i64 (pA a b c d), Value.int .i64 (pB a b c d)]) := by unfold pA pB; split <;> rfl
  rw [← hp]
  exact twPlus_ok a b c d w h k

theorem plusTwin_any (a b c d : Int) (w : World) (h : TwOk a b) (k : TwOk c d) :
    Calls Try.prog 23 #[(Value.agg #[Value.int .i64 a, Value.int .i64 b]), (Value.agg #[Value.int .i64 c, Value.int .i64 d])] w fun e w' => e = .returned (Value.agg #[Value.int .i64 (pA a b c d), Value.int .i64 (pB a b c d)]) ∧ Below w.heap.size w w' := by
  go_enter Try.func23, Try.ntmps23
  go_wp2_with fail
  refine (twPlus_ok' a b c d _ h k).mono ?_; rintro e w1 ⟨rfl, bel⟩; obtain ⟨c1, f1⟩ := bcell bel; have z1 := bel.size; simp at z1; (try have y0 : w.heap.size < w1.heap.size := by omega); (try have y1 : w.heap.size + 1 < w1.heap.size := by omega); (try have y2 : w.heap.size + 1 + 1 < w1.heap.size := by omega); (try have y3 : w.heap.size + 1 + 1 + 1 < w1.heap.size := by omega); (try have y4 : w.heap.size + 1 + 1 + 1 + 1 < w1.heap.size := by omega); (try have y5 : w.heap.size + 1 + 1 + 1 + 1 + 1 < w1.heap.size := by omega); (try have y6 : w.heap.size + 1 + 1 + 1 + 1 + 1 + 1 < w1.heap.size := by omega)
  go_wp2_with fail
  exact bodyPost_ret (v := (Value.agg #[Value.int .i64 (pA a b c d), Value.int .i64 (pB a b c d)])) (by simp [results, Try.results23, go_sem, *]) rfl ⟨rfl, (by repeat' (first | exact Below.refl _ _ | assumption | refine Below.step ?_ bel | refine Below.drew ?_ | refine Below.alloc ?_ (by simp; try omega) _ | refine Below.setCell ?_ (by simp; try omega) _))⟩

theorem timesTwin_any (a b c d : Int) (w : World) (h : TwFits a b c d) :
    Calls Try.prog 24 #[(Value.agg #[Value.int .i64 a, Value.int .i64 b]), (Value.agg #[Value.int .i64 c, Value.int .i64 d])] w fun e w' => e = .returned (Value.agg #[Value.int .i64 (tA a b c d), Value.int .i64 (tB a b c d)]) ∧ Below w.heap.size w w' := by
  go_enter Try.func24, Try.ntmps24
  go_wp2_with fail
  refine (twTimes_ok a b c d _ h).mono ?_; rintro e w1 ⟨rfl, bel⟩; obtain ⟨c1, f1⟩ := bcell bel; have z1 := bel.size; simp at z1; (try have y0 : w.heap.size < w1.heap.size := by omega); (try have y1 : w.heap.size + 1 < w1.heap.size := by omega); (try have y2 : w.heap.size + 1 + 1 < w1.heap.size := by omega); (try have y3 : w.heap.size + 1 + 1 + 1 < w1.heap.size := by omega); (try have y4 : w.heap.size + 1 + 1 + 1 + 1 < w1.heap.size := by omega); (try have y5 : w.heap.size + 1 + 1 + 1 + 1 + 1 < w1.heap.size := by omega); (try have y6 : w.heap.size + 1 + 1 + 1 + 1 + 1 + 1 < w1.heap.size := by omega)
  go_wp2_with fail
  exact bodyPost_ret (v := (Value.agg #[Value.int .i64 (tA a b c d), Value.int .i64 (tB a b c d)])) (by simp [results, Try.results24, go_sem, *]) rfl ⟨rfl, (by repeat' (first | exact Below.refl _ _ | assumption | refine Below.step ?_ bel | refine Below.drew ?_ | refine Below.alloc ?_ (by simp; try omega) _ | refine Below.setCell ?_ (by simp; try omega) _))⟩

/-- what pair answers -/
def prA (a : Int) : Int := if pick a 9 = 8 then 1000000001 else pick a 333333333
def prB (a b : Int) : Int := if pick a 9 = 8 then 1000000001 else pick b 333333333

theorem pair_any (a b : Int) (w : World) (h1 : -9223372036854775808 ≤ a) (h2 : a ≤ 9223372036854775807) (h3 : -9223372036854775808 ≤ b) (h4 : b ≤ 9223372036854775807) :
    Calls Try.prog 22 #[.int .i64 a, .int .i64 b] w fun e w' => e = .returned (Value.agg #[Value.int .i64 (prA a), Value.int .i64 (prB a b)]) ∧ Below w.heap.size w w' := by
  by_cases hp : pick a 9 = 8
  · have eA : prA a = 1000000001 := by unfold prA; rw [if_pos hp]
    have eB : prB a b = 1000000001 := by unfold prB; rw [if_pos hp]
    rw [eA, eB]
    clear eA eB
    have hb : (pick a 9 == 8) = true := by simp [hp]
    clear hp
    go_enter Try.func22, Try.ntmps22
    go_wp2_with fail
    refine (picked_any _ _ _ (by omega) (by omega) (by omega) (by omega)).mono ?_; rintro e w' ⟨rfl, rfl⟩
    go_wp2_with fail
    exact bodyPost_ret (v := (Value.agg #[Value.int .i64 1000000001, Value.int .i64 1000000001])) (by simp [results, Try.results22, go_sem]) rfl ⟨rfl, (by repeat' (first | exact Below.refl _ _ | assumption | refine Below.drew ?_ | refine Below.alloc ?_ (by simp; try omega) _ | refine Below.setCell ?_ (by simp; try omega) _))⟩
  · have eA : prA a = pick a 333333333 := by unfold prA; rw [if_neg hp]
    have eB : prB a b = pick b 333333333 := by unfold prB; rw [if_neg hp]
    rw [eA, eB]
    clear eA eB
    have hb : (pick a 9 == 8) = false := by simp [hp]
    clear hp
    go_enter Try.func22, Try.ntmps22
    go_wp2_with fail
    refine (picked_any _ _ _ (by omega) (by omega) (by omega) (by omega)).mono ?_; rintro e w' ⟨rfl, rfl⟩
    go_wp2_with (go_at_call 25; refine (picked_any _ _ _ (by omega) (by omega) (by omega) (by omega)).mono ?_; rintro e w' ⟨rfl, rfl⟩)
    exact bodyPost_ret (v := (Value.agg #[Value.int .i64 (pick a 333333333), Value.int .i64 (pick b 333333333)])) (by simp [results, Try.results22, go_sem]) rfl ⟨rfl, (by repeat' (first | exact Below.refl _ _ | assumption | refine Below.drew ?_ | refine Below.alloc ?_ (by simp; try omega) _ | refine Below.setCell ?_ (by simp; try omega) _))⟩
end Go.Proofs.Ytgepgokaodcpcaa
