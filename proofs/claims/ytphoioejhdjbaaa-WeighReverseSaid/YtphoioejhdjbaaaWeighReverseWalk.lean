/- The walk of WeighReverse. -/
import Derived.Test.YtphoioejhdjbaaaRevCost
import Derived.Test.YtphoioejhdjbaaaBackwards
import Derived.Test.YtphoioejhdjbaaaMBox
import Derived.Deep.RegionHeld3
import Derived.Deep.DeepCutAuto
import Derived.IntWalk
namespace Go.Proofs.Ytphoioejhdjbaaa
open Go.RowKit

theorem made_size (r : RawL) (k : Int) (full : Bool) (k1 : 1 ≤ k) : (mkMach r k full).states.length ≤ k.toNat ∧ arcsOf (mkMach r k full).states ≤ 4 * k.toNat ∧ 1 ≤ (mkMach r k full).states.length := by
  have h1 := mkMach_len r k full k1
  have h2 : mkN r k ≤ k ∧ 1 ≤ mkN r k := by unfold mkN; omega
  have h3 := sum_le4 _ (mk_arcs_small r k full)
  refine ⟨by omega, by omega, by omega⟩

namespace weighReverse
set_option maxRecDepth 100000 in
set_option maxHeartbeats 8000000 in
theorem walk {w : World} (v : Value) (r : RawL) (hr : RawArg w v r) (A1 : Option Addr) (n1 k1 : Nat) (xs : List Int) (hx : IntArg w A1 n1 xs) (A2 : Option Addr) (n2 k2 : Nat) (ys : List Int) (hy : IntArg w A2 n2 ys) :
    Calls Try.prog 9 #[v, .slice A1 n1 k1, .slice A2 n2 k2] w fun e w' => e = .returned (.bool true) ∧ Below w.heap.size w w' := by
  have hm : Valid (mkMach r 5 false) := valid_made r 5 false (by omega) (by omega)
  have hms := made_size r 5 false (by omega)
  have hsm : Little (mkMach r 5 false) 5 4 := made_little r 5 false (by omega)
  have HMD := Lib.hid (fun W hb => made_any v r 5 false W (hr.below hb) (by omega) (by omega))
  have HWX := Lib.hid (fun W hb => word_any A1 n1 k1 xs 4 W (hx.below hb) (by omega))
  have HWY := Lib.hid (fun W hb => word_any A2 n2 k2 ys 4 W (hy.below hb) (by omega))
  have lx := mkWord_len xs 4; have ly := mkWord_len ys 4
  have BX := Lib.hid (word_b xs 4); have BY := Lib.hid (word_b ys 4)
  obtain ⟨hst, hlen, A, c, rfl, hN⟩ := hr
  generalize mkMach r 5 false = m at *
  generalize mkWord xs 4 = x at *
  generalize mkWord ys 4 = y at *
  obtain ⟨hz1, hz2, -⟩ := hms
  have hz3 : m.states.length ≤ 5 := by simpa using hz1
  have hz4 : arcsOf m.states ≤ 20 := by simpa using hz2
  have HV := Lib.hid hm; have HVI := Lib.hid (rev_valid hm (by omega) (by omega))
  have HC := Lib.hid (hsm.ok 4 4 lx ly (by omega))
  have HCI : Hid (CostOk (revM m) x.length y.length) := Lib.hid ((rev_little hm hsm (by omega)).ok 4 4 lx ly (by omega))
  have HEQ := Lib.hid (fun c => rev_tot (x := x) (y := y) hm c)
  have HRX : Hid (∀ a ∈ x.reverse, 1 ≤ a ∧ a ≤ 1000) := Lib.hid (fun a ha => BX.out a (List.mem_reverse.1 ha))
  have HRY : Hid (∀ a ∈ y.reverse, 1 ≤ a ∧ a ≤ 1000) := Lib.hid (fun a ha => BY.out a (List.mem_reverse.1 ha))
  have hel : (revM m).states.length = m.states.length + 1 := rev_len m
  have HEL := Lib.hid hel
  clear hN hst hlen hm hsm hx hy hel hz1 hz2
  go_enter Try.func9, Try.ntmps9
  go_wp2_with fail
  refine (HMD.out _ (by repeat' (first | exact Below.refl _ _ | assumption | refine Below.drew ?_ | refine Below.alloc ?_ (by first | omega | (simp; done) | (simp; omega)) _ | refine Below.setCell ?_ (by first | omega | (simp; done) | (simp; omega)) _))).mono ?_; rintro e w1 ⟨mv, rfl, o1, r1⟩
  obtain ⟨A3, c3, rfl, s1⟩ := own_open o1
  have b1 : Below w.heap.size w w1 := ((by repeat' (first | exact Below.refl _ _ | assumption | refine Below.drew ?_ | refine Below.alloc ?_ (by first | omega | (simp; done) | (simp; omega)) _ | refine Below.setCell ?_ (by first | omega | (simp; done) | (simp; omega)) _)) : Below w.heap.size w _).trans (r1.mono (by simp))
  have X1 := Lib.hid (MBox.new (c := c3) s1)
  have b1a := b1.alloc b1.size (.cells #[.int .i64 m.start, .slice A3 m.states.length c3] 27)
  clear o1 r1 HMD s1
  go_wp2_with fail
  refine (Reverse_any _ m _ X1.out.mach HV.out (by omega) (by omega)).mono ?_; rintro e w2 ⟨mv2, rfl, o2, r2⟩
  obtain ⟨A4, c4, rfl, s2⟩ := own_open o2
  have b2 : Below w.heap.size w w2 := b1a.trans (r2.mono b1a.size)
  have Y2 := Lib.hid (MBox.new (c := c4) s2)
  have b2a := b2.alloc b2.size (.cells #[.int .i64 (revM m).start, .slice A4 (revM m).states.length c4] 27)
  have X2 := Lib.hid ((X1.out.step r2).alloc (.cells #[.int .i64 (revM m).start, .slice A4 (revM m).states.length c4] 27))
  clear o2 s2 X1 b1a r2 b1
  go_wp2_with fail
  refine (HWX.out _ b2a).mono ?_; rintro e w3 ⟨xv, rfl, ox, r3⟩
  obtain ⟨A5, c5, rfl, rx⟩ := word_open ox
  have RX := Lib.hid rx
  have b3 : Below w.heap.size w w3 := b2a.trans (r3.mono b2a.size)
  have X3 := Lib.hid (X2.out.step r3); have Y3 := Lib.hid (Y2.out.step r3)
  clear ox rx r3 X2 Y2 b2a b2 HWX
  go_wp2_with fail
  refine (HWY.out _ b3).mono ?_; rintro e w4 ⟨yv, rfl, oy, r4⟩
  obtain ⟨A6, c6, rfl, ry⟩ := word_open oy
  have RY := Lib.hid ry
  have b4 : Below w.heap.size w w4 := b3.trans (r4.mono b3.size)
  have X4 := Lib.hid (X3.out.step r4); have Y4 := Lib.hid (Y3.out.step r4); have RX4 := Lib.hid (RX.out.below r4 rfl)
  have k4 := X4.out.blk.cell; have l4 := X4.out.blk.lt
  clear oy ry r4 X3 Y3 RX b3 HWY
  go_wp2_with fail
  clear k4 l4
  refine (cost_any _ m x y A5 A6 c5 c6 _ X4.out.mach HV.out RX4.out RY.out (by omega) (by omega) BX.out BY.out HC.out).mono ?_; rintro e w5 ⟨c0, rfl, hB, r5⟩
  have b5 : Below w.heap.size w w5 := b4.trans (r5.mono b4.size)
  have HB := Lib.hid hB
  have hc0 := (hB.nonneg HV.out).1
  have X5 := Lib.hid (X4.out.step r5); have Y5 := Lib.hid (Y4.out.step r5); have RX5 := Lib.hid (RX4.out.below r5 rfl); have RY5 := Lib.hid (RY.out.below r5 rfl)
  have k5 := X5.out.blk.cell; have l5 := X5.out.blk.lt
  have k6 := Y5.out.blk.cell; have l6 := Y5.out.blk.lt
  have hel := HEL.out
  clear hB X4 Y4 RX4 RY r5 b4
  have hm5 := Y5.out.mach
  rw [hel] at hm5 k6
  have hi : ((m.states.length + 1 : Nat) : Int) = (m.states.length : Int) + 1 := by simp
  have q0 : w5.cell? ⟨w1.heap.size, 0, none⟩ = some (.int .i64 m.start) := by simpa using k5 0
  have q1 : w5.cell? ⟨w1.heap.size, 1, none⟩ = some (.slice A3 m.states.length c3) := by simpa using k5 1
  have q2 : w5.cell? ⟨w2.heap.size, 0, none⟩ = some (.int .i64 (revM m).start) := by simpa using k6 0
  have q3 : w5.cell? ⟨w2.heap.size, 1, none⟩ = some (.slice A4 (m.states.length + 1) c4) := by simpa using k6 1
  have HM5 := Lib.hid hm5
  have hwr : IntKind.i64.wrap ((m.states.length : Int) + 1) = (m.states.length : Int) + 1 := IntWalk.i64_in _ (by omega)
  clear k5 k6 hm5
  go_upto_region 6 with fail
  go_region_held3 (fun w' => w'.cell? ⟨w1.heap.size, 0, none⟩ = some (.int .i64 m.start) ∧ w'.cell? ⟨w1.heap.size, 1, none⟩ = some (.slice A3 m.states.length c3) ∧ w'.cell? ⟨w2.heap.size, 0, none⟩ = some (.int .i64 (revM m).start) ∧ w'.cell? ⟨w2.heap.size, 1, none⟩ = some (.slice A4 (m.states.length + 1) c4) ∧ Below w5.heap.size w5 w') (first | (have q : Below w5.heap.size w5 w5.drew := (Below.refl _ _).drew; exact ⟨cellB q q0, cellB q q1, cellB q q2, cellB q q3, q⟩) | (go_split_ands; have q := Below.step (a := w5) (by assumption) bn; exact ⟨cellB q q0, cellB q q1, cellB q q2, cellB q q3, q⟩)) (first | (go_at_call 29; go_split_ands; refine (backwards_any _ _ _ _ (by first | exact RX5.out.below (by assumption) rfl | exact RY5.out.below (by assumption) rfl) (by omega)).mono ?_; rintro e wn ⟨A7, c7, rfl, rz, bn⟩; (try have ry2 := ry.below bn rfl); have ry := rz) | (go_at_call 27; go_split_ands; refine (cost_n _ (revM m) x.reverse y.reverse _ _ x.length y.length _ _ _ List.length_reverse List.length_reverse (HM5.out.below (by assumption)) HVI.out (by assumption) (by assumption) (by omega) (by omega) HRX.out HRY.out HCI.out).mono ?_; rintro e wn2 ⟨c9, rfl, hB2, bn⟩; obtain rfl : c9 = c0 := hB2.same HB.out HEQ.out))
  all_goals
    go_wp2_with fail
    go_ret
    exact ⟨rfl, b5.trans (Below.mono (by go_split_ands; assumption) b5.size)⟩
end weighReverse
end Go.Proofs.Ytphoioejhdjbaaa
