/- twin.Power where nothing runs over. -/
import Derived.Test.YtgepgokaodcpcaaTwinLaws
import Derived.LoopTactic
import Derived.Deep.DeepCutAuto
import Derived.Deep.CutBlock
import Derived.Deep.RegionHeld3
namespace Go.Proofs.Ytgepgokaodcpcaa
open Go.ChangeShapes Go.WideShapes Go.ChangeAt Go.RowKit

theorem twtimes_over (a b c d : Int) (w : World) (h1 : 0 ≤ a) (h2 : a ≤ 1000000000) (h3 : 0 ≤ b) (h4 : b ≤ 1000000000) (k1 : 0 ≤ c) (k2 : c ≤ 1000000000) (k3 : 0 ≤ d) (k4 : d ≤ 1000000000) (s : 1000000000 < a + c ∨ 1000000000 < b + d) :
    Calls Try.prog 68 #[.agg #[], (Value.agg #[Value.int .i64 a, Value.int .i64 b]), (Value.agg #[Value.int .i64 c, Value.int .i64 d])] w fun e w' => e = .returned (.tuple #[(Value.agg #[Value.int .i64 (a + c), Value.int .i64 (b + d)]), .bool false]) ∧ Below w.heap.size w w' := by
  have g1 : (a == 1000000001) = false := by simp; omega
  have g2 : (b == 1000000001) = false := by simp; omega
  have g3 : (c == 1000000001) = false := by simp; omega
  have g4 : (d == 1000000001) = false := by simp; omega
  by_cases s1 : a + c ≤ 1000000000
  · have s2 : decide (b + d ≤ 1000000000) = false := by simp; omega
    go_enter Try.func68, Try.ntmps68
    go_wp2
    go_region
    all_goals
      go_wp2
      exact bodyPost_ret (v := .tuple #[(Value.agg #[Value.int .i64 (a + c), Value.int .i64 (b + d)]), .bool false]) (by simp [results, Try.results68, go_sem]) rfl ⟨rfl, (by repeat' (first | exact Below.refl _ _ | assumption | refine Below.drew ?_ | refine Below.alloc ?_ (by first | omega | (simp; done) | (simp; omega)) _ | refine Below.setCell ?_ (by first | omega | (simp; done) | (simp; omega)) _))⟩
  · have s2 : decide (a + c ≤ 1000000000) = false := by simp; omega
    clear s
    go_enter Try.func68, Try.ntmps68
    go_wp2
    go_region
    all_goals
      go_wp2
      exact bodyPost_ret (v := .tuple #[(Value.agg #[Value.int .i64 (a + c), Value.int .i64 (b + d)]), .bool false]) (by simp [results, Try.results68, go_sem]) rfl ⟨rfl, (by repeat' (first | exact Below.refl _ _ | assumption | refine Below.drew ?_ | refine Below.alloc ?_ (by first | omega | (simp; done) | (simp; omega)) _ | refine Below.setCell ?_ (by first | omega | (simp; done) | (simp; omega)) _))⟩

theorem one_any (w : World) : Calls Try.prog 97 #[.agg #[]] w fun e w' => e = .returned (Value.agg #[Value.int .i64 0, Value.int .i64 0]) ∧ Below w.heap.size w w' := by
  go_enter Try.func97, Try.ntmps97
  go_wp2
  exact bodyPost_ret (v := (Value.agg #[Value.int .i64 0, Value.int .i64 0])) (by simp [results, Try.results97, go_sem]) rfl ⟨rfl, (by repeat' (first | exact Below.refl _ _ | assumption | refine Below.drew ?_ | refine Below.alloc ?_ (by first | omega | (simp; done) | (simp; omega)) _ | refine Below.setCell ?_ (by first | omega | (simp; done) | (simp; omega)) _))⟩

theorem method_one (w : World) : (method 247 88 (.agg #[]) "tropica/twin.one").run Try.prog w = .ok (97, .agg #[]) w := by kernel_rfl
theorem method_times (w : World) : (method 247 88 (.agg #[]) "tropica/twin.times").run Try.prog w = .ok (68, .agg #[]) w := by kernel_rfl

/-- a box that holds a twin -/
def Box (w : World) (g : Nat) (a b : Int) : Prop := w.cell? ⟨g, 0, none⟩ = some (.int .i64 a) ∧ w.cell? ⟨g, 1, none⟩ = some (.int .i64 b)
theorem Box.below {w w' : World} {g : Nat} {a b : Int} (h : Box w g a b) {B : Nat} (hb : Below B w w') (hg : g < B) : Box w' g a b :=
  ⟨by rw [hb.cell (p := ⟨g, 0, none⟩) hg]; exact h.1, by rw [hb.cell (p := ⟨g, 1, none⟩) hg]; exact h.2⟩
theorem Box.lt {w : World} {g : Nat} {a b : Int} (h : Box w g a b) : g < w.heap.size := World.block_lt_of_cell? _ _ h.1
theorem Box.mk_ (w : World) (t : TypeId) (a b : Int) : Box (w.alloc (.cells #[.int .i64 a, .int .i64 b] t)) w.heap.size a b := ⟨by simp [go_sem], by simp [go_sem]⟩

/-- a box that holds a twin and can be written -/
structure BoxW (w : World) (g : Nat) (a b : Int) : Prop where
  c0 : w.cell? ⟨g, 0, none⟩ = some (.int .i64 a)
  c1 : w.cell? ⟨g, 1, none⟩ = some (.int .i64 b)
  f0 : w.frozen? ⟨g, 0, none⟩ = false
  f1 : w.frozen? ⟨g, 1, none⟩ = false
theorem BoxW.lt {w : World} {g : Nat} {a b : Int} (h : BoxW w g a b) : g < w.heap.size := World.block_lt_of_cell? _ _ h.c0
theorem BoxW.below {w w' : World} {g : Nat} {a b : Int} (h : BoxW w g a b) (hb : Below w.heap.size w w') : BoxW w' g a b :=
  ⟨by rw [hb.cell (p := ⟨g, 0, none⟩) h.lt]; exact h.c0, by rw [hb.cell (p := ⟨g, 1, none⟩) h.lt]; exact h.c1, by rw [hb.frozen (p := ⟨g, 0, none⟩) h.lt]; exact h.f0, by rw [hb.frozen (p := ⟨g, 1, none⟩) h.lt]; exact h.f1⟩

/-- what the loop of power keeps -/
structure PowRel (K1 K2 N X Y oa ob ca cb : Int) (ft : Bool) : Prop where
  n0 : 0 ≤ N
  x0 : 0 ≤ X
  y0 : 0 ≤ Y
  oa0 : 0 ≤ oa
  ob0 : 0 ≤ ob
  e1 : oa + X * N = K1
  e2 : ob + Y * N = K2
  yes : ft = true → ca = X ∧ cb = Y ∧ X ≤ 1000000000 ∧ Y ≤ 1000000000
  no : ft = false → 1000000000 < X ∨ 1000000000 < Y

theorem mul_ge {X N : Int} (hx : 0 ≤ X) (hn : 1 ≤ N) : X ≤ X * N := by
  have := Int.mul_le_mul_of_nonneg_left hn hx
  simpa using this
theorem half_mul (X N : Int) : 2 * X * (N / 2) + X * (N % 2) = X * N := by
  have h := Int.mul_ediv_add_emod N 2
  calc 2 * X * (N / 2) + X * (N % 2) = X * (2 * (N / 2) + N % 2) := by rw [Int.mul_add, ← Int.mul_assoc, Int.mul_comm X 2]
    _ = X * N := by rw [h]

section
variable {K1 K2 N X Y oa ob ca cb : Int} {ft : Bool}
theorem PowRel.odd_fits (h : PowRel K1 K2 N X Y oa ob ca cb ft) (k1 : K1 ≤ 1000000000) (k2 : K2 ≤ 1000000000) (hn : 1 ≤ N) : ft = true := by
  cases ft
  · exfalso
    have a1 := mul_ge h.x0 hn; have a2 := mul_ge h.y0 hn
    have e1 := h.e1; have e2 := h.e2; have o1 := h.oa0; have o2 := h.ob0
    rcases h.no rfl with n | n <;> omega
  · rfl
theorem PowRel.sum (h : PowRel K1 K2 N X Y oa ob ca cb ft) (k1 : K1 ≤ 1000000000) (k2 : K2 ≤ 1000000000) (hn : 1 ≤ N) : oa + X ≤ 1000000000 ∧ ob + Y ≤ 1000000000 := by
  have a1 := mul_ge h.x0 hn; have a2 := mul_ge h.y0 hn
  have e1 := h.e1; have e2 := h.e2
  omega
theorem PowRel.even (h : PowRel K1 K2 N X Y oa ob ca cb ft) (hn : N % 2 = 0) (ca' cb' : Int) (ft' : Bool) (yes : ft' = true → ca' = 2 * X ∧ cb' = 2 * Y ∧ 2 * X ≤ 1000000000 ∧ 2 * Y ≤ 1000000000) (no : ft' = false → 1000000000 < 2 * X ∨ 1000000000 < 2 * Y) :
    PowRel K1 K2 (N / 2) (2 * X) (2 * Y) oa ob ca' cb' ft' := by
  have a1 := half_mul X N; have a2 := half_mul Y N
  rw [hn, Int.mul_zero, Int.add_zero] at a1 a2
  have e1 := h.e1; have e2 := h.e2; have n0 := h.n0; have x0 := h.x0; have y0 := h.y0
  exact ⟨by omega, by omega, by omega, h.oa0, h.ob0, by rw [a1]; exact e1, by rw [a2]; exact e2, yes, no⟩
theorem PowRel.odd (h : PowRel K1 K2 N X Y oa ob ca cb ft) (hn : N % 2 = 1) (ca' cb' : Int) (ft' : Bool) (yes : ft' = true → ca' = 2 * X ∧ cb' = 2 * Y ∧ 2 * X ≤ 1000000000 ∧ 2 * Y ≤ 1000000000) (no : ft' = false → 1000000000 < 2 * X ∨ 1000000000 < 2 * Y) :
    PowRel K1 K2 (N / 2) (2 * X) (2 * Y) (oa + X) (ob + Y) ca' cb' ft' := by
  have a1 := half_mul X N; have a2 := half_mul Y N
  rw [hn, Int.mul_one] at a1 a2
  have e1 := h.e1; have e2 := h.e2; have n0 := h.n0; have x0 := h.x0; have y0 := h.y0; have o1 := h.oa0; have o2 := h.ob0
  exact ⟨by omega, by omega, by omega, by omega, by omega, by omega, by omega, yes, no⟩
end

set_option maxRecDepth 100000 in
set_option maxHeartbeats 4000000 in
theorem power_ok (a b k : Int) (w : World) (h1 : 0 ≤ a) (h2 : a ≤ 1000000000) (h3 : 0 ≤ b) (h4 : b ≤ 1000000000) (k1 : 0 ≤ k) (k2 : k ≤ 1000000000) (s1 : a * k ≤ 1000000000) (s2 : b * k ≤ 1000000000) :
    Calls Try.prog 50 #[.iface 88 (.agg #[]), (Value.agg #[Value.int .i64 a, Value.int .i64 b]), .int .i64 k] w fun e w' => e = .returned (.tuple #[(Value.agg #[Value.int .i64 (a * k), Value.int .i64 (b * k)]), .bool true]) ∧ Below w.heap.size w w' := by
  have m1 := method_one
  have m2 := method_times
  have R0 : PowRel (a * k) (b * k) k a b 0 0 a b true := ⟨k1, h1, h3, by omega, by omega, by omega, by omega, fun _ => ⟨rfl, rfl, h2, h4⟩, fun h => by cases h⟩
  generalize a * k = K1 at *
  generalize b * k = K2 at *
  go_enter Try.func50, Try.ntmps50
  go_wp2_with fail
  refine (one_any _).mono ?_; rintro e w1 ⟨rfl, bel⟩; obtain ⟨c1, f1⟩ := bcell bel; have z1 := bel.size; simp at z1; (try have y0 : w.heap.size < w1.heap.size := by omega); (try have y1 : w.heap.size + 1 < w1.heap.size := by omega); (try have y2 : w.heap.size + 1 + 1 < w1.heap.size := by omega); (try have y3 : w.heap.size + 1 + 1 + 1 < w1.heap.size := by omega); (try have y4 : w.heap.size + 1 + 1 + 1 + 1 < w1.heap.size := by omega); (try have y5 : w.heap.size + 1 + 1 + 1 + 1 + 1 < w1.heap.size := by omega); (try have y6 : w.heap.size + 1 + 1 + 1 + 1 + 1 + 1 < w1.heap.size := by omega)
  go_wp2_with fail
  have B4 : BoxW (w1.alloc (.cells #[.int .i64 0, .int .i64 0] 23)) w.heap.size a b := by constructor <;> simp [go_sem, *]
  have B6 : BoxW (w1.alloc (.cells #[.int .i64 0, .int .i64 0] 23)) (w.heap.size + 1) 0 0 := by constructor <;> simp [go_sem, *]
  have B8 : BoxW (w1.alloc (.cells #[.int .i64 0, .int .i64 0] 23)) w1.heap.size 0 0 := by constructor <;> simp [go_sem, *]
  have bel0 : Below w.heap.size w (w1.alloc (.cells #[.int .i64 0, .int .i64 0] 23)) := (by repeat' (first | exact Below.refl _ _ | assumption | refine Below.step ?_ bel | refine Below.drew ?_ | refine Below.alloc ?_ (by first | omega | (simp; done) | (simp; omega)) _ | refine Below.setCell ?_ (by first | omega | (simp; done) | (simp; omega)) _))
  have n68 : w.heap.size + 1 ≠ w1.heap.size := by omega
  have n48 : w.heap.size ≠ w1.heap.size := by omega
  have p8 : w.heap.size ≤ w1.heap.size := by omega
  have n86 : w1.heap.size ≠ w.heap.size + 1 := by omega
  have n84 : w1.heap.size ≠ w.heap.size := by omega
  generalize w1.alloc (.cells #[.int .i64 0, .int .i64 0] 23) = w2 at *
  clear c1 f1 y0 y1 z1 bel
  generalize w1.heap.size = g8 at *
  go_loopw [2, 10] (fun n fits wr => ∃ (N X Y oa ob ca cb : Int) (ft : Bool), n = .int .i64 N ∧ fits = .bool ft ∧ PowRel K1 K2 N X Y oa ob ca cb ft ∧ N ≤ 1000000000 ∧ BoxW wr w.heap.size ca cb ∧ BoxW wr (w.heap.size + 1) 0 0 ∧ BoxW wr g8 oa ob ∧ Below w.heap.size w wr) (fun n _ _ => (intOf n).toNat)
  case atStart => exact ⟨k, a, b, 0, 0, a, b, true, rfl, rfl, R0, k2, B4, B6, B8, bel0⟩
  case round =>
    clear B4 B6 B8 bel0 R0
    obtain ⟨N, X, Y, oa, ob, ca, cb, ft, rfl, rfl, hR, hN, B4, B6, B8, bel⟩ := hrel
    by_cases hn : 0 < N
    · obtain ⟨x1, x2, x3, x4⟩ := B4
      obtain ⟨y1, y2, y3, y4⟩ := B8
      have l4 : w.heap.size < wr.heap.size := World.block_lt_of_cell? _ _ x1
      have l8 : g8 < wr.heap.size := World.block_lt_of_cell? _ _ y1
      have HR := Lib.hid hR
      have l6 : w.heap.size + 1 < wr.heap.size := World.block_lt_of_cell? _ _ B6.c0
      obtain ⟨t1, t2, t3, t4⟩ := B6
      by_cases hodd : N % 2 = 1
      · obtain rfl := hR.odd_fits s1 s2 (by omega)
        obtain ⟨rfl, rfl, hX, hY⟩ := hR.yes rfl
        have hsum := hR.sum s1 s2 (by omega)
        have o1 := hR.oa0; have o2 := hR.ob0; have o3 := hR.x0; have o4 := hR.y0
        have ho : (N % 2 == 1) = true := by simp [hodd]
        have HO := Lib.hid hodd
        clear hodd hR
        by_cases hs : 2 * ca ≤ 1000000000 ∧ 2 * cb ≤ 1000000000
        · have hs1 : ca + ca ≤ 1000000000 := by omega
          have hs2 : cb + cb ≤ 1000000000 := by omega
          have HS := Lib.hid hs; clear hs
          go_wp2_with fail
          refine (twtimes_ok oa ob ca cb _ o1 (by omega) o2 (by omega) o3 hX o4 hY hsum.1 hsum.2).mono ?_
          rintro e w3 ⟨rfl, b3⟩
          obtain ⟨c3, f3⟩ := bcell b3
          have bel3 := bel.trans (b3.mono bel.size)
          have l43 : w.heap.size < w3.heap.size := by have := b3.size; omega
          have l83 : g8 < w3.heap.size := by have := b3.size; omega
          have l63 : w.heap.size + 1 < w3.heap.size := by have := b3.size; omega
          go_wp2_with fail
          refine (twtimes_ok ca cb ca cb _ o3 hX o4 hY o3 hX o4 hY hs1 hs2).mono ?_
          rintro e w4 ⟨rfl, b4⟩
          obtain ⟨c4, f4⟩ := bcell b4
          have l44 : w.heap.size < w4.heap.size := by have := b4.size; simp at this; omega
          have l84 : g8 < w4.heap.size := by have := b4.size; simp at this; omega
          have l64 : w.heap.size + 1 < w4.heap.size := by have := b4.size; simp at this; omega
          have bel4 : Below w.heap.size w w4 := ((bel3.setCell (by simp; omega) _).setCell (by simp; omega) _).trans (b4.mono (by have := bel3.size; simp; omega))
          go_wp2_with fail
          go_roundw
          case rel =>
            refine ⟨N / 2, 2 * ca, 2 * cb, oa + ca, ob + cb, ca + ca, cb + cb, true, rfl, rfl, HR.out.odd HO.out _ _ _ (fun _ => ⟨by omega, by omega, HS.out.1, HS.out.2⟩) (fun h => by cases h), by omega, ?_, ?_, ?_, ?_⟩
            · constructor <;> simp [go_sem, *]
            · constructor <;> simp [go_sem, *]
            · constructor <;> simp [go_sem, *]
            · exact ((bel4.setCell (by simp) _).setCell (by simp) _).alloc (by have := bel4.size; simp; omega) _
          case measure => simp [intOf]; omega
        · have hs1 : 1000000000 < ca + ca ∨ 1000000000 < cb + cb := by omega
          have HS := Lib.hid (show 1000000000 < 2 * ca ∨ 1000000000 < 2 * cb by omega); clear hs
          go_wp2_with fail
          refine (twtimes_ok oa ob ca cb _ o1 (by omega) o2 (by omega) o3 hX o4 hY hsum.1 hsum.2).mono ?_
          rintro e w3 ⟨rfl, b3⟩
          obtain ⟨c3, f3⟩ := bcell b3
          have bel3 := bel.trans (b3.mono bel.size)
          have l43 : w.heap.size < w3.heap.size := by have := b3.size; omega
          have l83 : g8 < w3.heap.size := by have := b3.size; omega
          have l63 : w.heap.size + 1 < w3.heap.size := by have := b3.size; omega
          go_wp2_with fail
          refine (twtimes_over ca cb ca cb _ o3 hX o4 hY o3 hX o4 hY hs1).mono ?_
          rintro e w4 ⟨rfl, b4⟩
          obtain ⟨c4, f4⟩ := bcell b4
          have l44 : w.heap.size < w4.heap.size := by have := b4.size; simp at this; omega
          have l84 : g8 < w4.heap.size := by have := b4.size; simp at this; omega
          have l64 : w.heap.size + 1 < w4.heap.size := by have := b4.size; simp at this; omega
          have bel4 : Below w.heap.size w w4 := ((bel3.setCell (by simp; omega) _).setCell (by simp; omega) _).trans (b4.mono (by have := bel3.size; simp; omega))
          go_wp2_with fail
          go_roundw
          case rel =>
            refine ⟨N / 2, 2 * ca, 2 * cb, oa + ca, ob + cb, ca, cb, false, rfl, rfl, HR.out.odd HO.out _ _ _ (fun h => by cases h) (fun _ => HS.out), by omega, ?_, ?_, ?_, ?_⟩
            · constructor <;> simp [go_sem, *]
            · constructor <;> simp [go_sem, *]
            · constructor <;> simp [go_sem, *]
            · exact bel4.alloc (by have := bel4.size; omega) _
          case measure => simp [intOf]; omega
      · have hev : N % 2 = 0 := by omega
        have ho : (N % 2 == 1) = false := by simp [hev]
        have HO := Lib.hid hev
        clear hodd hev
        cases ft
        · have HN := Lib.hid (hR.no rfl)
          have o3 := hR.x0; have o4 := hR.y0
          clear hR
          go_wp2_with fail
          go_roundw
          case rel => exact ⟨N / 2, 2 * X, 2 * Y, oa, ob, ca, cb, false, rfl, rfl, HR.out.even HO.out _ _ _ (fun h => by cases h) (fun _ => by have := HN.out; omega), by omega, ⟨x1, x2, x3, x4⟩, ⟨t1, t2, t3, t4⟩, ⟨y1, y2, y3, y4⟩, bel⟩
          case measure => simp [intOf]; omega
        · obtain ⟨rfl, rfl, hX, hY⟩ := hR.yes rfl
          have o3 := hR.x0; have o4 := hR.y0
          clear hR
          by_cases hs : 2 * ca ≤ 1000000000 ∧ 2 * cb ≤ 1000000000
          · have hs1 : ca + ca ≤ 1000000000 := by omega
            have hs2 : cb + cb ≤ 1000000000 := by omega
            have HS := Lib.hid hs; clear hs
            go_wp2_with fail
            refine (twtimes_ok ca cb ca cb _ o3 hX o4 hY o3 hX o4 hY hs1 hs2).mono ?_
            rintro e w4 ⟨rfl, b4⟩
            obtain ⟨c4, f4⟩ := bcell b4
            have l44 : w.heap.size < w4.heap.size := by have := b4.size; omega
            have l84 : g8 < w4.heap.size := by have := b4.size; omega
            have l64 : w.heap.size + 1 < w4.heap.size := by have := b4.size; omega
            have bel4 : Below w.heap.size w w4 := bel.trans (b4.mono bel.size)
            go_wp2_with fail
            go_roundw
            case rel =>
              refine ⟨N / 2, 2 * ca, 2 * cb, oa, ob, ca + ca, cb + cb, true, rfl, rfl, HR.out.even HO.out _ _ _ (fun _ => ⟨by omega, by omega, HS.out.1, HS.out.2⟩) (fun h => by cases h), by omega, ?_, ?_, ?_, ?_⟩
              · constructor <;> simp [go_sem, *]
              · constructor <;> simp [go_sem, *]
              · constructor <;> simp [go_sem, *]
              · exact ((bel4.setCell (by simp) _).setCell (by simp) _).alloc (by have := bel4.size; simp; omega) _
            case measure => simp [intOf]; omega
          · have hs1 : 1000000000 < ca + ca ∨ 1000000000 < cb + cb := by omega
            have HS := Lib.hid (show 1000000000 < 2 * ca ∨ 1000000000 < 2 * cb by omega); clear hs
            go_wp2_with fail
            refine (twtimes_over ca cb ca cb _ o3 hX o4 hY o3 hX o4 hY hs1).mono ?_
            rintro e w4 ⟨rfl, b4⟩
            obtain ⟨c4, f4⟩ := bcell b4
            have l44 : w.heap.size < w4.heap.size := by have := b4.size; omega
            have l84 : g8 < w4.heap.size := by have := b4.size; omega
            have l64 : w.heap.size + 1 < w4.heap.size := by have := b4.size; omega
            have bel4 : Below w.heap.size w w4 := bel.trans (b4.mono bel.size)
            go_wp2_with fail
            go_roundw
            case rel =>
              refine ⟨N / 2, 2 * ca, 2 * cb, oa, ob, ca, cb, false, rfl, rfl, HR.out.even HO.out _ _ _ (fun h => by cases h) (fun _ => HS.out), by omega, ?_, ?_, ?_, ?_⟩
              · constructor <;> simp [go_sem, *]
              · constructor <;> simp [go_sem, *]
              · constructor <;> simp [go_sem, *]
              · exact bel4.alloc (by have := bel4.size; omega) _
            case measure => simp [intOf]; omega
    · have hz : N = 0 := by have := hR.n0; omega
      subst hz
      have e1 : oa = K1 := by have := hR.e1; simp at this; exact this
      have e2 : ob = K2 := by have := hR.e2; simp at this; exact this
      subst e1 e2
      obtain ⟨x1, x2, x3, x4⟩ := B8
      obtain ⟨z1, z2, z3, z4⟩ := B6
      go_wp2_with fail
      exact bodyPost_ret (v := .tuple #[(Value.agg #[Value.int .i64 oa, Value.int .i64 ob]), .bool true]) (by simp [results, Try.results50, go_sem, *]) rfl ⟨rfl, (bel.setCell (by simp) _).setCell (by simp) _⟩
end Go.Proofs.Ytgepgokaodcpcaa
