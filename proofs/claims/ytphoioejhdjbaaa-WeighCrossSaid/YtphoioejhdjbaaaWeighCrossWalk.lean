/- The walk of WeighCross. -/
import Derived.Test.YtphoioejhdjbaaaCrossCost
import Derived.Test.YtphoioejhdjbaaaSameInts
import Derived.Test.YtphoioejhdjbaaaMBox
namespace Go.Proofs.Ytphoioejhdjbaaa
open Go.RowKit

theorem cross_best {x y : List Int} (hx : ∀ a ∈ x, 1 ≤ a ∧ a ≤ 1000) (hy : ∀ a ∈ y, 1 ≤ a ∧ a ≤ 1000) (u v : List Int) : Best (Tot (crossM x y) u v false) (if x = u ∧ y = v then 0 else INF) := by
  split
  · rename_i h
    exact .inr ⟨(cross_tot hx hy u v 0).2 ⟨h.1, h.2, rfl⟩, fun c hc => by have := ((cross_tot hx hy u v c).1 hc).2.2; omega, by omega⟩
  · rename_i h
    exact .inl ⟨rfl, fun c hc => by have := (cross_tot hx hy u v c).1 hc; exact h ⟨this.1, this.2.1⟩⟩

namespace weighCross
set_option maxRecDepth 100000 in
set_option maxHeartbeats 8000000 in
theorem walk {w : World} (A1 : Option Addr) (n1 k1 : Nat) (xs : List Int) (hx : IntArg w A1 n1 xs) (A2 : Option Addr) (n2 k2 : Nat) (ys : List Int) (hy : IntArg w A2 n2 ys) (A3 : Option Addr) (n3 k3 : Nat) (us : List Int) (hu : IntArg w A3 n3 us) (A4 : Option Addr) (n4 k4 : Nat) (vs : List Int) (hv : IntArg w A4 n4 vs) :
    Calls Try.prog 7 #[.slice A1 n1 k1, .slice A2 n2 k2, .slice A3 n3 k3, .slice A4 n4 k4] w fun e w' => e = .returned (.bool true) ∧ Below w.heap.size w w' := by
  have HWX := Lib.hid (fun W hb => word_any A1 n1 k1 xs 5 W (hx.below hb) (by omega))
  have HWY := Lib.hid (fun W hb => word_any A2 n2 k2 ys 5 W (hy.below hb) (by omega))
  have HWU := Lib.hid (fun W hb => word_any A3 n3 k3 us 5 W (hu.below hb) (by omega))
  have HWV := Lib.hid (fun W hb => word_any A4 n4 k4 vs 5 W (hv.below hb) (by omega))
  have lx := mkWord_len xs 5; have ly := mkWord_len ys 5
  have lu := mkWord_len us 5; have lv := mkWord_len vs 5
  have BX := Lib.hid (word_b xs 5); have BY := Lib.hid (word_b ys 5)
  have BU := Lib.hid (word_b us 5); have BV := Lib.hid (word_b vs 5)
  generalize mkWord xs 5 = x at *
  generalize mkWord ys 5 = y at *
  generalize mkWord us 5 = u at *
  generalize mkWord vs 5 = v at *
  have hcn : crossN x y ≤ 5 := by unfold crossN; omega
  have HM := Lib.hid (cross_valid BX.out BY.out (by omega))
  have hlt := cross_little (x := x) (y := y) hcn
  have HC1 := Lib.hid (hlt.ok 5 5 lx ly (by omega))
  have HC2 := Lib.hid (hlt.ok 5 5 lu lv (by omega))
  have HB1 : Hid (Best (Tot (crossM x y) x y false) 0) := Lib.hid (by have := cross_best BX.out BY.out x y; rwa [if_pos ⟨rfl, rfl⟩] at this)
  have HB2 := Lib.hid (cross_best BX.out BY.out u v)
  have hcl := cross_len x y
  have hmi : max (x.length : Int) (y.length : Int) = (crossN x y : Nat) := by unfold crossN; omega
  have HMI := Lib.hid hmi
  clear hx hy hu hv hlt hmi
  have HCL := Lib.hid hcl
  generalize hmm : crossM x y = m at *
  have HMM := Lib.hid hmm; clear hmm
  go_enter Try.func7, Try.ntmps7
  go_wp2_with fail
  refine (HWX.out _ (by repeat' (first | exact Below.refl _ _ | assumption | refine Below.drew ?_ | refine Below.alloc ?_ (by first | omega | (simp; done) | (simp; omega)) _ | refine Below.setCell ?_ (by first | omega | (simp; done) | (simp; omega)) _))).mono ?_; rintro e w1 ⟨xv, rfl, ox, b1⟩
  obtain ⟨A5, c5, rfl, rx⟩ := word_open ox
  have RX := Lib.hid rx
  clear ox rx HWX
  go_wp2_with fail
  refine (HWY.out _ b1).mono ?_; rintro e w2 ⟨yv, rfl, oy, r2⟩
  obtain ⟨A6, c6, rfl, ry⟩ := word_open oy
  have RY := Lib.hid ry
  have RX2 := Lib.hid (RX.out.below r2 rfl)
  have b2 := b1.trans (r2.mono b1.size)
  clear oy ry HWY r2 b1 RX
  go_wp2_with fail
  refine (Cross_any A5 A6 c5 c6 x y w2 RX2.out RY.out (by omega) (by omega) BX.out BY.out).mono ?_; rintro e w3 ⟨mv, rfl, o3, r3⟩
  rw [HMM.out] at o3
  obtain ⟨A7, c7, rfl, s3⟩ := own_open o3
  have b3 := b2.trans (r3.mono b2.size)
  have X3 := Lib.hid (MBox.new (c := c7) s3)
  have RX3 := Lib.hid ((RX2.out.below r3 rfl).below ((Below.refl _ _).alloc (Nat.le_refl _) (.cells #[.int .i64 m.start, .slice A7 m.states.length c7] 27)) rfl)
  have RY3 := Lib.hid ((RY.out.below r3 rfl).below ((Below.refl _ _).alloc (Nat.le_refl _) (.cells #[.int .i64 m.start, .slice A7 m.states.length c7] 27)) rfl)
  have b3a := b3.alloc b3.size (.cells #[.int .i64 m.start, .slice A7 m.states.length c7] 27)
  have HCL := Lib.hid hcl
  clear o3 s3 r3 RX2 RY b2 b3 hcl
  go_wp2_with fail
  generalize w3.alloc (.cells #[.int .i64 m.start, .slice A7 m.states.length c7] 27) = w4 at *
  refine (HWU.out _ b3a).mono ?_; rintro e w5 ⟨uv, rfl, ou, r5⟩
  obtain ⟨A8, c8, rfl, ru⟩ := word_open ou
  have RU := Lib.hid ru
  have b5 := b3a.trans (r5.mono b3a.size)
  have X5 := Lib.hid (X3.out.step r5); have RX5 := Lib.hid (RX3.out.below r5 rfl); have RY5 := Lib.hid (RY3.out.below r5 rfl)
  clear ou ru HWU r5 b3a X3 RX3 RY3
  go_wp2_with fail
  refine (HWV.out _ b5).mono ?_; rintro e w6 ⟨vv, rfl, ov, r6⟩
  obtain ⟨A9, c9, rfl, rv⟩ := word_open ov
  have RV := Lib.hid rv
  have b6 := b5.trans (r6.mono b5.size)
  have X6 := Lib.hid (X5.out.step r6); have RX6 := Lib.hid (RX5.out.below r6 rfl); have RY6 := Lib.hid (RY5.out.below r6 rfl); have RU6 := Lib.hid (RU.out.below r6 rfl)
  clear ov rv HWV r6 b5 X5 RX5 RY5 RU
  go_upto_region 7 with fail
  go_cut [37] (fun bv wx => bv = .bool (decide (x = u ∧ y = v)) ∧ Below w6.heap.size w6 wx)
  case first =>
    go_wp2_with fail
    refine (sameInts_any A5 A8 c5 c8 x u w6 RX6.out RU6.out (by omega)).mono ?_; rintro e w7 ⟨rfl, r7⟩
    generalize hbb : decide (x = u) = bb at *
    have HBB := Lib.hid hbb; clear hbb
    cases bb
    · have hxu : ¬ x = u := of_decide_eq_false HBB.out
      have HNX := Lib.hid hxu; clear hxu
      go_wp2_with fail
      go_meet
      case rel => exact ⟨by simp [HNX.out], r7⟩
    · have HXU := Lib.hid (of_decide_eq_true HBB.out)
      go_wp2_with fail
      refine (sameInts_any A6 A9 c6 c9 y v w7 (RY6.out.below r7 rfl) (RV.out.below r7 rfl) (by omega)).mono ?_; rintro e w8 ⟨rfl, r8⟩
      go_wp2_with fail
      go_meet
      case rel => exact ⟨by simp [HXU.out], Below.step r7 r8⟩
  case rest =>
  obtain ⟨rfl, r7⟩ := hcut
  obtain ⟨w7, rfl⟩ : ∃ w7 : World, w7 = wc := ⟨_, rfl⟩
  have b7 := b6.trans (r7.mono b6.size)
  have X7 := Lib.hid (X6.out.step r7); have RX7 := Lib.hid (RX6.out.below r7 rfl); have RY7 := Lib.hid (RY6.out.below r7 rfl); have RU7 := Lib.hid (RU6.out.below r7 rfl); have RV7 := Lib.hid (RV.out.below r7 rfl)
  clear r7 b6 X6 RX6 RY6 RU6 RV
  generalize hbb : decide (x = u ∧ y = v) = bb at *
  have HBB := Lib.hid hbb; clear hbb
  have HWANT : Hid ((if x = u ∧ y = v then 0 else INF : Int) = if bb = true then 0 else 1000000001) := Lib.hid (by
    rw [← HBB.out]; simp)
  go_upto_if 37 with fail
  go_cut [15] (fun cv wx => cv = .int .i64 (if bb = true then 0 else 1000000001) ∧ wx = w7)
  case first =>
    cases bb
    all_goals
      go_wp2_with fail
      go_meet
      case rel => exact ⟨by simp, rfl⟩
  case rest =>
  obtain ⟨rfl, rfl⟩ := hcut
  obtain ⟨w7, rfl⟩ : ∃ w7 : World, w7 = wc := ⟨_, rfl⟩
  have hb2 := HB2.out
  rw [HWANT.out] at hb2
  generalize (if bb = true then 0 else 1000000001 : Int) = want at *
  have HBW := Lib.hid hb2
  clear hb2 HB2 HWANT HBB
  have k7 := X7.out.blk.cell; have l7 := X7.out.blk.lt
  by_cases h : x.length < y.length
  · have hcl := HCL.out
    have hN : crossN x y = y.length := by unfold crossN; omega
    rw [hN] at hcl
    have h2 : (x.length : Int) < (y.length : Int) := by omega
    have hwr : IntKind.i64.wrap ((y.length : Int) + 1) = (y.length : Int) + 1 := IntWalk.i64_in _ (by omega)
    have hqq : ((m.states.length : Int) == (y.length : Int) + 1) = true := by rw [hcl]; simp
    clear hcl hN
    go_wp2_with fail
    refine (cost_any _ m x y A5 A6 c5 c6 _ X7.out.mach HM.out RX7.out RY7.out (by omega) (by omega) BX.out BY.out HC1.out).mono ?_; rintro e w8 ⟨r8, rfl, hB8, b8⟩
    obtain rfl : r8 = 0 := hB8.eq HB1.out
    have X8 := Lib.hid (X7.out.step b8)
    have k8 := X8.out.blk.cell; have l8 := X8.out.blk.lt
    clear hB8 k7 l7
    go_wp2_with fail
    refine (cost_any _ m u v A8 A9 c8 c9 _ X8.out.mach HM.out (RU7.out.below b8 rfl) (RV7.out.below b8 rfl) (by omega) (by omega) BU.out BV.out HC2.out).mono ?_; rintro e w9 ⟨r9, rfl, hB9, b9⟩
    obtain rfl : r9 = want := hB9.eq HBW.out
    clear hB9 k8 l8
    go_wp2_with fail
    go_ret
    exact ⟨rfl, b7.trans ((Below.step b8 b9).mono b7.size)⟩
  · have hcl := HCL.out
    have hN : crossN x y = x.length := by unfold crossN; omega
    rw [hN] at hcl
    have h2 : ¬ (x.length : Int) < (y.length : Int) := by omega
    have hwr : IntKind.i64.wrap ((x.length : Int) + 1) = (x.length : Int) + 1 := IntWalk.i64_in _ (by omega)
    have hqq : ((m.states.length : Int) == (x.length : Int) + 1) = true := by rw [hcl]; simp
    clear hcl hN
    go_wp2_with fail
    refine (cost_any _ m x y A5 A6 c5 c6 _ X7.out.mach HM.out RX7.out RY7.out (by omega) (by omega) BX.out BY.out HC1.out).mono ?_; rintro e w8 ⟨r8, rfl, hB8, b8⟩
    obtain rfl : r8 = 0 := hB8.eq HB1.out
    have X8 := Lib.hid (X7.out.step b8)
    have k8 := X8.out.blk.cell; have l8 := X8.out.blk.lt
    clear hB8 k7 l7
    go_wp2_with fail
    refine (cost_any _ m u v A8 A9 c8 c9 _ X8.out.mach HM.out (RU7.out.below b8 rfl) (RV7.out.below b8 rfl) (by omega) (by omega) BU.out BV.out HC2.out).mono ?_; rintro e w9 ⟨r9, rfl, hB9, b9⟩
    obtain rfl : r9 = want := hB9.eq HBW.out
    clear hB9 k8 l8
    go_wp2_with fail
    go_ret
    exact ⟨rfl, b7.trans ((Below.step b8 b9).mono b7.size)⟩
end weighCross
end Go.Proofs.Ytphoioejhdjbaaa
