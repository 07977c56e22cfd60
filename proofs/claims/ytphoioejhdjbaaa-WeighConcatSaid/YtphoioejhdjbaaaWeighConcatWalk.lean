/- The walk of WeighConcat. -/
import Derived.Test.YtphoioejhdjbaaaConcatCost
namespace Go.Proofs.Ytphoioejhdjbaaa
open Go.RowKit

theorem made_size' (r : RawL) (k : Int) (full : Bool) (k1 : 1 ≤ k) : (mkMach r k full).states.length ≤ k.toNat ∧ arcsOf (mkMach r k full).states ≤ 4 * k.toNat ∧ 1 ≤ (mkMach r k full).states.length := by
  have h1 := mkMach_len r k full k1
  have h2 : mkN r k ≤ k ∧ 1 ≤ mkN r k := by unfold mkN; omega
  have h3 := sum_le4 _ (mk_arcs_small r k full)
  refine ⟨by omega, by omega, by omega⟩
namespace weighConcat
set_option maxRecDepth 100000 in
set_option maxHeartbeats 8000000 in
theorem walk {w : World} (v1 : Value) (r1 : RawL) (hr1 : RawArg w v1 r1) (v2 : Value) (r2 : RawL) (hr2 : RawArg w v2 r2) (A1 : Option Addr) (n1 k1 : Nat) (xs : List Int) (hx : IntArg w A1 n1 xs) (A2 : Option Addr) (n2 k2 : Nat) (ys : List Int) (hy : IntArg w A2 n2 ys) :
    Calls Try.prog 13 #[v1, v2, .slice A1 n1 k1, .slice A2 n2 k2] w fun e w' => e = .returned (.bool true) ∧ Below w.heap.size w w' := by
  have hma : Valid (mkMach r1 4 false) := valid_made r1 4 false (by omega) (by omega)
  have hmb : Valid (mkMach r2 4 false) := valid_made r2 4 false (by omega) (by omega)
  have hsa : Little (mkMach r1 4 false) 4 4 := made_little r1 4 false (by omega)
  have hsb : Little (mkMach r2 4 false) 4 4 := made_little r2 4 false (by omega)
  have hza := made_size' r1 4 false (by omega)
  have hzb := made_size' r2 4 false (by omega)
  have HMA := Lib.hid (fun W hb => made_any v1 r1 4 false W (hr1.below hb) (by omega) (by omega))
  have HMB := Lib.hid (fun W hb => made_any v2 r2 4 false W (hr2.below hb) (by omega) (by omega))
  have HWX := Lib.hid (fun W hb => word_any A1 n1 k1 xs 3 W (hx.below hb) (by omega))
  have HWY := Lib.hid (fun W hb => word_any A2 n2 k2 ys 3 W (hy.below hb) (by omega))
  have lx := mkWord_len xs 3; have ly := mkWord_len ys 3
  have BX := Lib.hid (word_b xs 3); have BY := Lib.hid (word_b ys 3)
  obtain ⟨-, -, A, c, rfl, -⟩ := hr1
  obtain ⟨-, -, B, d, rfl, -⟩ := hr2
  generalize mkMach r1 4 false = a at *
  generalize mkMach r2 4 false = b at *
  generalize mkWord xs 3 = x at *
  generalize mkWord ys 3 = y at *
  obtain ⟨hza1, hza2, hza3⟩ := hza
  obtain ⟨hzb1, hzb2, hzb3⟩ := hzb
  have hza1' : a.states.length ≤ 4 := by simpa using hza1
  have hzb1' : b.states.length ≤ 4 := by simpa using hzb1
  have hza2' : arcsOf a.states ≤ 16 := by simpa using hza2
  have hzb2' : arcsOf b.states ≤ 16 := by simpa using hzb2
  have HVA := Lib.hid hma; have HVB := Lib.hid hmb
  have HVU := Lib.hid (concat_valid hma hmb (by omega) (by omega))
  have HCA := Lib.hid (fun i j (hi : i ≤ x.length) (hj : j ≤ y.length) => hsa.ok (lx := i) (ly := j) 3 3 (by omega) (by omega) (by omega)); have HCB := Lib.hid (fun i j (hi : i ≤ x.length) (hj : j ≤ y.length) => hsb.ok (lx := i) (ly := j) 3 3 (by omega) (by omega) (by omega))
  have HCU := Lib.hid ((concat_little hsa hsb).ok 3 3 lx ly (by omega))
  have HEQ := Lib.hid (concat_tot hma hmb x y)
  have hul : ((concatM a b).states.length : Int) = a.states.length + b.states.length := by rw [concat_len]; simp
  have hgt : (1 : Int) < ((concatM a b).states.length : Int) := by omega
  clear hma hmb hsa hsb hza1 hza2 hzb1 hzb2 hx hy hul
  generalize hum : concatM a b = u at *
  have HUM := Lib.hid hum; clear hum
  go_enter Try.func13, Try.ntmps13
  go_wp2_with fail
  refine (HMA.out _ (by repeat' (first | exact Below.refl _ _ | assumption | refine Below.drew ?_ | refine Below.alloc ?_ (by first | omega | (simp; done) | (simp; omega)) _ | refine Below.setCell ?_ (by first | omega | (simp; done) | (simp; omega)) _))).mono ?_; rintro e w1 ⟨mv, rfl, o1, q1⟩
  obtain ⟨A3, c3, rfl, s1⟩ := own_open o1
  have b1 : Below w.heap.size w w1 := ((by repeat' (first | exact Below.refl _ _ | assumption | refine Below.drew ?_ | refine Below.alloc ?_ (by first | omega | (simp; done) | (simp; omega)) _ | refine Below.setCell ?_ (by first | omega | (simp; done) | (simp; omega)) _)) : Below w.heap.size w _).trans (q1.mono (by simp; omega))
  have hz : Hid (Blk w1 (w.heap.size + 1) #[.int .i64 r2.start, .slice B r2.nodes.length d] 24) := Lib.hid (Blk.step (Blk.new' (by simp)) q1)
  have X1 := Lib.hid (MBox.new (c := c3) s1)
  have b1a := b1.alloc b1.size (.cells #[.int .i64 a.start, .slice A3 a.states.length c3] 27)
  have kz := hz.out.cell; have lz := hz.out.lt
  clear o1 q1 HMA s1
  go_wp2_with fail
  clear kz lz
  refine (HMB.out _ b1a).mono ?_; rintro e w2 ⟨mv2, rfl, o2, q2⟩
  obtain ⟨A4, c4, rfl, s2⟩ := own_open o2
  have b2 : Below w.heap.size w w2 := b1a.trans (q2.mono b1a.size)
  have Y2 := Lib.hid (MBox.new (c := c4) s2)
  have X2 := Lib.hid ((X1.out.step q2).alloc (.cells #[.int .i64 b.start, .slice A4 b.states.length c4] 27))
  have b2a := b2.alloc b2.size (.cells #[.int .i64 b.start, .slice A4 b.states.length c4] 27)
  have kx := (X1.out.step q2).blk.cell; have lx2 := (X1.out.step q2).blk.lt
  clear o2 q2 HMB s2 X1 b1a b1 hz
  go_wp2_with fail
  clear kx lx2
  refine (Concat_any _ _ a b _ X2.out.mach Y2.out.mach HVA.out HVB.out (by rw [HUM.out]; exact HVU.out)).mono ?_; rintro e w3 ⟨mv3, rfl, o3, q3⟩
  rw [HUM.out] at o3
  obtain ⟨A5, c5, rfl, s3⟩ := own_open o3
  have b3 : Below w.heap.size w w3 := b2a.trans (q3.mono b2a.size)
  have Z3 := Lib.hid (MBox.new (c := c5) s3)
  have X3 := Lib.hid ((X2.out.step q3).alloc (.cells #[.int .i64 u.start, .slice A5 u.states.length c5] 27))
  have Y3 := Lib.hid ((Y2.out.step q3).alloc (.cells #[.int .i64 u.start, .slice A5 u.states.length c5] 27))
  have b3a := b3.alloc b3.size (.cells #[.int .i64 u.start, .slice A5 u.states.length c5] 27)
  clear o3 q3 s3 X2 Y2 b2 b2a
  go_wp2_with fail
  generalize w3.alloc (.cells #[.int .i64 u.start, .slice A5 u.states.length c5] 27) = w4 at *
  refine (HWX.out _ b3a).mono ?_; rintro e w5 ⟨xv, rfl, ox, q5⟩
  obtain ⟨A6, c6, rfl, hc6, -⟩ := own_form ox
  have rx := Rd.of_own ox
  have RX := Lib.hid rx
  have b5 : Below w.heap.size w w5 := b3a.trans (q5.mono b3a.size)
  have X5 := Lib.hid (X3.out.step q5); have Y5 := Lib.hid (Y3.out.step q5); have Z5 := Lib.hid (Z3.out.step q5)
  clear ox rx q5 X3 Y3 Z3 b3a b3 HWX
  go_wp2_with fail
  refine (HWY.out _ b5).mono ?_; rintro e w6 ⟨yv, rfl, oy, q6⟩
  obtain ⟨A7, c7, rfl, hc7, -⟩ := own_form oy
  have ry := Rd.of_own oy
  have RY := Lib.hid ry
  have b6 : Below w.heap.size w w6 := b5.trans (q6.mono b5.size)
  have X6 := Lib.hid (X5.out.step q6); have Y6 := Lib.hid (Y5.out.step q6); have Z6 := Lib.hid (Z5.out.step q6); have RX6 := Lib.hid (RX.out.below q6 rfl)
  have k6 := X6.out.blk.cell; have l6 := X6.out.blk.lt; have k6b := Y6.out.blk.cell; have l6b := Y6.out.blk.lt
  clear oy ry q6 X5 Y5 Z5 RX b5 HWY
  go_wp2_with fail
  clear k6 l6 k6b l6b
  refine (splits_any _ _ a b x y A6 A7 c6 c7 _ X6.out.mach Y6.out.mach HVA.out HVB.out RX6.out RY.out (by omega) (by omega) hc6 hc7 BX.out BY.out HCA.out HCB.out).mono ?_; rintro e w7 ⟨n0, rfl, hn0, hBn, q7⟩
  have b7 : Below w.heap.size w w7 := b6.trans (q7.mono b6.size)
  have HBN := Lib.hid (hBn.congr HEQ.out)
  have Z7 := Lib.hid (Z6.out.step q7); have RX7 := Lib.hid (RX6.out.below q7 rfl); have RY7 := Lib.hid (RY.out.below q7 rfl)
  have k7 := Z7.out.blk.cell; have l7 := Z7.out.blk.lt
  clear hBn q7 X6 Y6 Z6 RX6 RY b6
  go_wp2_with fail
  clear k7 l7
  refine (cost_any _ u x y A6 A7 c6 c7 _ Z7.out.mach HVU.out RX7.out RY7.out (by omega) (by omega) BX.out BY.out HCU.out).mono ?_; rintro e w8 ⟨cu, rfl, hBu, q8⟩
  obtain rfl : cu = n0 := hBu.eqB HBN.out
  have b8 : Below w.heap.size w w8 := b7.trans (q8.mono b7.size)
  clear hBu q8
  go_wp2_with fail
  go_ret
  exact ⟨rfl, b8⟩
end weighConcat
end Go.Proofs.Ytphoioejhdjbaaa
