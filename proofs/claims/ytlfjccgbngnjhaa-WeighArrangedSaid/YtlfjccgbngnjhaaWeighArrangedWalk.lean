/- The walk of WeighArranged. -/
import Derived.Test.YtlfjccgbngnjhaaMerged
import Derived.Test.YtlfjccgbngnjhaaTrimCost
import Derived.Test.YtlfjccgbngnjhaaTrim
import Derived.Test.YtlfjccgbngnjhaaCostMade
import Derived.Test.YtlfjccgbngnjhaaMBox
import Derived.Test.YtlfjccgbngnjhaaIntArg
namespace Go.Proofs.Ytlfjccgbngnjhaa
open Go.RowKit

theorem ne_same (a b : Nat) (h : a = b) : ((a : Int) != (b : Int)) = false := by subst h; simp
namespace weighArranged
set_option maxRecDepth 100000 in
set_option maxHeartbeats 8000000 in
theorem walk {w : World} (v1 : Value) (r1 : RawL) (hr1 : RawArg w v1 r1) (A1 : Option Addr) (n1 k1 : Nat) (xs : List Int) (hx : IntArg w A1 n1 xs) (A2 : Option Addr) (n2 k2 : Nat) (ys : List Int) (hy : IntArg w A2 n2 ys) :
    Calls Try.prog 5 #[v1, .slice A1 n1 k1, .slice A2 n2 k2] w fun e w' => e = .returned (.bool true) ∧ Below w.heap.size w w' := by
  have hma : Valid (mkMach r1 5 false) := valid_made r1 5 false (by omega) (by omega)
  have hla := made_little r1 5 false (by omega)
  have ha0 : 0 ≤ (mkMach r1 5 false).start := pick_lo _ _ (by unfold mkN; omega)
  have HM1 := Lib.hid (fun W hb => made_any v1 r1 5 false W (hr1.below hb) (by omega) (by omega))
  have HWX := Lib.hid (fun W hb => word_any A1 n1 k1 xs 4 W (hx.below hb) (by omega))
  have HWY := Lib.hid (fun W hb => word_any A2 n2 k2 ys 4 W (hy.below hb) (by omega))
  have lx := mkWord_len xs 4; have ly := mkWord_len ys 4
  have BX := Lib.hid (word_b xs 4); have BY := Lib.hid (word_b ys 4)
  obtain ⟨-, -, A, c, rfl, -⟩ := hr1
  generalize mkMach r1 5 false = a at *
  generalize mkWord xs 4 = x at *
  generalize mkWord ys 4 = y at *
  have HS := Lib.hid (fun va W h => Sorted_any va a W h hma)
  have HB := Lib.hid (fun va W h => ByOut_any va a W h hma)
  have HG := Lib.hid (fun va W h => Merged_any va a W h hma)
  have HT := Lib.hid (fun va W h => Trim_any va a W h hma)
  have HV := Lib.hid hma
  have hv1 := Lib.hid (arrM_valid (drops_sort readKy) hma)
  have hv2 := Lib.hid (arrM_valid (drops_sort writeKy) hma)
  have hv3 := Lib.hid (arrM_valid drops_merge hma)
  have hv4 := Lib.hid (trim_valid hma)
  have hc0 := Lib.hid (hla.ok 4 4 lx ly (by omega))
  have hc1 := Lib.hid ((arrM_little (drops_sort readKy) hla).ok 4 4 lx ly (by omega))
  have hc2 := Lib.hid ((arrM_little (drops_sort writeKy) hla).ok 4 4 lx ly (by omega))
  have hc3 := Lib.hid ((arrM_little drops_merge hla).ok 4 4 lx ly (by omega))
  have hc4 := Lib.hid ((trim_little hla).ok 4 4 lx ly (by omega))
  have he1 := Lib.hid (fun p q (hp : Best (Tot a x y false) p) hq => arr_best (drops_sort readKy) (sort_keeps readKy) hp hq (r' := q))
  have he2 := Lib.hid (fun p q (hp : Best (Tot a x y false) p) hq => arr_best (drops_sort writeKy) (sort_keeps writeKy) hp hq (r' := q))
  have he3 := Lib.hid (fun p q (hp : Best (Tot a x y false) p) hq => arr_best drops_merge merge_keeps hp hq (r' := q))
  have he4 := Lib.hid (fun p q (hp : Best (Tot a x y false) p) (hq : Best (Tot (trimM a) x y false) q) => (hq.same hp (fun c => trim_tot hma ha0 x y c) : q = p))
  have hl1 := Lib.hid (ne_same _ _ (arrM_len (sortK readKy) a))
  clear hma hla hx hy ha0
  generalize arrM (sortK readKy) a = t1 at *
  generalize arrM (sortK writeKy) a = t2 at *
  generalize arrM mergeL a = t3 at *
  generalize trimM a = t4 at *
  go_enter Try.func5, Try.ntmps5
  go_upto_region 1 with fail
  have R1 : Hid (Blk (w.alloc (.cells #[.int .i64 r1.start, .slice A r1.nodes.length c] 24)) (w.heap.size) #[.int .i64 r1.start, .slice A r1.nodes.length c] 24) := Lib.hid (Blk.new' (by simp))
  have b0 : Below w.heap.size w (w.alloc (.cells #[.int .i64 r1.start, .slice A r1.nodes.length c] 24)) := (by repeat' (first | exact Below.refl _ _ | assumption | refine Below.drew ?_ | refine Below.alloc ?_ (by first | omega | (simp; done) | (simp; omega)) _ | refine Below.setCell ?_ (by first | omega | (simp; done) | (simp; omega)) _))
  generalize (w.alloc (.cells #[.int .i64 r1.start, .slice A r1.nodes.length c] 24)) = w0 at *
  have k_R1 := R1.out.cell; have l_R1 := R1.out.lt
  go_wp2_with fail
  clear k_R1 l_R1
  refine (HM1.out _ b0).mono ?_; rintro e w1 ⟨mv1, rfl, o1, q1⟩
  have b1 : Below w.heap.size w w1 := b0.trans (q1.mono b0.size)
  replace R1 := Lib.hid (R1.out.step q1)
  obtain ⟨A3, c3, rfl, s1⟩ := own_open o1
  have X1 := Lib.hid (MBox.new (c := c3) s1)
  clear o1 s1
  go_upto_region 2 with fail
  have b1a := b1.alloc b1.size (.cells #[.int .i64 a.start, .slice A3 a.states.length c3] 27)
  generalize w1.alloc (.cells #[.int .i64 a.start, .slice A3 a.states.length c3] 27) = w1a at *
  generalize w1.heap.size = ba at *
  go_wp2_with fail
  refine (HWX.out _ b1a).mono ?_; rintro e w2 ⟨xv, rfl, ox, q2⟩
  have b2 : Below w.heap.size w w2 := b1a.trans (q2.mono b1a.size)
  replace X1 := Lib.hid (X1.out.step q2)
  obtain ⟨AX, cX, rfl, rx⟩ := word_open ox
  have RX := Lib.hid rx
  clear ox rx
  go_wp2_with fail
  refine (HWY.out _ b2).mono ?_; rintro e w3 ⟨xv, rfl, ox, q3⟩
  have b3 : Below w.heap.size w w3 := b2.trans (q3.mono b2.size)
  replace X1 := Lib.hid (X1.out.step q3)
  replace RX := Lib.hid (RX.out.below q3 rfl)
  obtain ⟨AY, cY, rfl, rx⟩ := word_open ox
  have RY := Lib.hid rx
  clear ox rx
  have k_X1 := X1.out.blk.cell; have l_X1 := X1.out.blk.lt
  go_wp2_with fail
  clear k_X1 l_X1
  refine (cost_any _ a x y AX AY cX cY _ X1.out.mach HV.out RX.out RY.out (by omega) (by omega) BX.out BY.out hc0.out).mono ?_; rintro e w4 ⟨rc, rfl, hB0, q4⟩
  have b4 : Below w.heap.size w w4 := b3.trans (q4.mono b3.size)
  replace X1 := Lib.hid (X1.out.step q4)
  replace RX := Lib.hid (RX.out.below q4 rfl)
  replace RY := Lib.hid (RY.out.below q4 rfl)
  have HB0 := Lib.hid hB0
  have hcn := (hB0.nonneg HV.out).1
  clear hB0
  have k_X1 := X1.out.blk.cell; have l_X1 := X1.out.blk.lt
  go_wp2_with fail
  clear k_X1 l_X1
  refine (HS.out _ _ X1.out.mach).mono ?_; rintro e w5 ⟨mvx, rfl, ox, q5⟩
  have b5 : Below w.heap.size w w5 := b4.trans (q5.mono b4.size)
  replace X1 := Lib.hid (X1.out.step q5)
  replace RX := Lib.hid (RX.out.below q5 rfl)
  replace RY := Lib.hid (RY.out.below q5 rfl)
  obtain ⟨A6, c6, rfl, sx⟩ := own_open ox
  have Z1 := Lib.hid (MBox.new (c := c6) sx)
  clear ox sx
  go_upto_region 6 with fail
  replace X1 := Lib.hid (X1.out.alloc (.cells #[.int .i64 t1.start, .slice A6 t1.states.length c6] 27))
  replace RX := Lib.hid (RX.out.below (show Below w5.heap.size w5 (w5.alloc (.cells #[.int .i64 t1.start, .slice A6 t1.states.length c6] 27)) from (Below.refl _ _).alloc (Nat.le_refl _) _) rfl)
  replace RY := Lib.hid (RY.out.below (show Below w5.heap.size w5 (w5.alloc (.cells #[.int .i64 t1.start, .slice A6 t1.states.length c6] 27)) from (Below.refl _ _).alloc (Nat.le_refl _) _) rfl)
  have b5a := b5.alloc b5.size (.cells #[.int .i64 t1.start, .slice A6 t1.states.length c6] 27)
  generalize w5.alloc (.cells #[.int .i64 t1.start, .slice A6 t1.states.length c6] 27) = w5a at *
  generalize w5.heap.size = bz1 at *
  have k_X1 := X1.out.blk.cell; have l_X1 := X1.out.blk.lt
  go_wp2_with fail
  clear k_X1 l_X1
  refine (HB.out _ _ X1.out.mach).mono ?_; rintro e w6 ⟨mvx, rfl, ox, q6⟩
  have b6 : Below w.heap.size w w6 := b5a.trans (q6.mono b5a.size)
  replace X1 := Lib.hid (X1.out.step q6)
  replace RX := Lib.hid (RX.out.below q6 rfl)
  replace RY := Lib.hid (RY.out.below q6 rfl)
  replace Z1 := Lib.hid (Z1.out.step q6)
  obtain ⟨A7, c7, rfl, sx⟩ := own_open ox
  have Z2 := Lib.hid (MBox.new (c := c7) sx)
  clear ox sx
  go_upto_region 7 with fail
  replace X1 := Lib.hid (X1.out.alloc (.cells #[.int .i64 t2.start, .slice A7 t2.states.length c7] 27))
  replace RX := Lib.hid (RX.out.below (show Below w6.heap.size w6 (w6.alloc (.cells #[.int .i64 t2.start, .slice A7 t2.states.length c7] 27)) from (Below.refl _ _).alloc (Nat.le_refl _) _) rfl)
  replace RY := Lib.hid (RY.out.below (show Below w6.heap.size w6 (w6.alloc (.cells #[.int .i64 t2.start, .slice A7 t2.states.length c7] 27)) from (Below.refl _ _).alloc (Nat.le_refl _) _) rfl)
  replace Z1 := Lib.hid (Z1.out.alloc (.cells #[.int .i64 t2.start, .slice A7 t2.states.length c7] 27))
  have b6a := b6.alloc b6.size (.cells #[.int .i64 t2.start, .slice A7 t2.states.length c7] 27)
  generalize w6.alloc (.cells #[.int .i64 t2.start, .slice A7 t2.states.length c7] 27) = w6a at *
  generalize w6.heap.size = bz2 at *
  have k_X1 := X1.out.blk.cell; have l_X1 := X1.out.blk.lt
  go_wp2_with fail
  clear k_X1 l_X1
  refine (HG.out _ _ X1.out.mach).mono ?_; rintro e w7 ⟨mvx, rfl, ox, q7⟩
  have b7 : Below w.heap.size w w7 := b6a.trans (q7.mono b6a.size)
  replace X1 := Lib.hid (X1.out.step q7)
  replace RX := Lib.hid (RX.out.below q7 rfl)
  replace RY := Lib.hid (RY.out.below q7 rfl)
  replace Z1 := Lib.hid (Z1.out.step q7)
  replace Z2 := Lib.hid (Z2.out.step q7)
  obtain ⟨A8, c8, rfl, sx⟩ := own_open ox
  have Z3 := Lib.hid (MBox.new (c := c8) sx)
  clear ox sx
  go_upto_region 8 with fail
  replace X1 := Lib.hid (X1.out.alloc (.cells #[.int .i64 t3.start, .slice A8 t3.states.length c8] 27))
  replace RX := Lib.hid (RX.out.below (show Below w7.heap.size w7 (w7.alloc (.cells #[.int .i64 t3.start, .slice A8 t3.states.length c8] 27)) from (Below.refl _ _).alloc (Nat.le_refl _) _) rfl)
  replace RY := Lib.hid (RY.out.below (show Below w7.heap.size w7 (w7.alloc (.cells #[.int .i64 t3.start, .slice A8 t3.states.length c8] 27)) from (Below.refl _ _).alloc (Nat.le_refl _) _) rfl)
  replace Z1 := Lib.hid (Z1.out.alloc (.cells #[.int .i64 t3.start, .slice A8 t3.states.length c8] 27))
  replace Z2 := Lib.hid (Z2.out.alloc (.cells #[.int .i64 t3.start, .slice A8 t3.states.length c8] 27))
  have b7a := b7.alloc b7.size (.cells #[.int .i64 t3.start, .slice A8 t3.states.length c8] 27)
  generalize w7.alloc (.cells #[.int .i64 t3.start, .slice A8 t3.states.length c8] 27) = w7a at *
  generalize w7.heap.size = bz3 at *
  have k_X1 := X1.out.blk.cell; have l_X1 := X1.out.blk.lt
  go_wp2_with fail
  clear k_X1 l_X1
  refine (HT.out _ _ X1.out.mach).mono ?_; rintro e w8 ⟨mvx, rfl, ox, q8⟩
  have b8 : Below w.heap.size w w8 := b7a.trans (q8.mono b7a.size)
  replace X1 := Lib.hid (X1.out.step q8)
  replace RX := Lib.hid (RX.out.below q8 rfl)
  replace RY := Lib.hid (RY.out.below q8 rfl)
  replace Z1 := Lib.hid (Z1.out.step q8)
  replace Z2 := Lib.hid (Z2.out.step q8)
  replace Z3 := Lib.hid (Z3.out.step q8)
  obtain ⟨A9, c9, rfl, sx⟩ := own_open ox
  have Z4 := Lib.hid (MBox.new (c := c9) sx)
  clear ox sx
  go_upto_region 9 with fail
  replace X1 := Lib.hid (X1.out.alloc (.cells #[.int .i64 t4.start, .slice A9 t4.states.length c9] 27))
  replace RX := Lib.hid (RX.out.below (show Below w8.heap.size w8 (w8.alloc (.cells #[.int .i64 t4.start, .slice A9 t4.states.length c9] 27)) from (Below.refl _ _).alloc (Nat.le_refl _) _) rfl)
  replace RY := Lib.hid (RY.out.below (show Below w8.heap.size w8 (w8.alloc (.cells #[.int .i64 t4.start, .slice A9 t4.states.length c9] 27)) from (Below.refl _ _).alloc (Nat.le_refl _) _) rfl)
  replace Z1 := Lib.hid (Z1.out.alloc (.cells #[.int .i64 t4.start, .slice A9 t4.states.length c9] 27))
  replace Z2 := Lib.hid (Z2.out.alloc (.cells #[.int .i64 t4.start, .slice A9 t4.states.length c9] 27))
  replace Z3 := Lib.hid (Z3.out.alloc (.cells #[.int .i64 t4.start, .slice A9 t4.states.length c9] 27))
  have b8a := b8.alloc b8.size (.cells #[.int .i64 t4.start, .slice A9 t4.states.length c9] 27)
  generalize w8.alloc (.cells #[.int .i64 t4.start, .slice A9 t4.states.length c9] 27) = w8a at *
  generalize w8.heap.size = bz4 at *
  have hl1x := hl1.out
  have k_X1 := X1.out.blk.cell; have l_X1 := X1.out.blk.lt
  have k_Z1 := Z1.out.blk.cell; have l_Z1 := Z1.out.blk.lt
  go_wp2_with fail
  clear k_X1 l_X1 k_Z1 l_Z1
  refine (cost_any _ t1 x y AX AY cX cY _ Z1.out.mach hv1.out RX.out RY.out (by omega) (by omega) BX.out BY.out hc1.out).mono ?_; rintro e w9 ⟨s1, rfl, hB1, q9⟩
  have b9 : Below w.heap.size w w9 := b8a.trans (q9.mono b8a.size)
  replace X1 := Lib.hid (X1.out.step q9)
  replace RX := Lib.hid (RX.out.below q9 rfl)
  replace RY := Lib.hid (RY.out.below q9 rfl)
  replace Z1 := Lib.hid (Z1.out.step q9)
  replace Z2 := Lib.hid (Z2.out.step q9)
  replace Z3 := Lib.hid (Z3.out.step q9)
  replace Z4 := Lib.hid (Z4.out.step q9)
  clear hl1x hcn
  obtain rfl := he1.out _ _ HB0.out hB1
  clear hB1
  have k_Z2 := Z2.out.blk.cell; have l_Z2 := Z2.out.blk.lt
  go_wp2_with fail
  clear k_Z2 l_Z2
  refine (cost_any _ t2 x y AX AY cX cY _ Z2.out.mach hv2.out RX.out RY.out (by omega) (by omega) BX.out BY.out hc2.out).mono ?_; rintro e w10 ⟨s2, rfl, hB2, q10⟩
  have b10 : Below w.heap.size w w10 := b9.trans (q10.mono b9.size)
  replace X1 := Lib.hid (X1.out.step q10)
  replace RX := Lib.hid (RX.out.below q10 rfl)
  replace RY := Lib.hid (RY.out.below q10 rfl)
  replace Z1 := Lib.hid (Z1.out.step q10)
  replace Z2 := Lib.hid (Z2.out.step q10)
  replace Z3 := Lib.hid (Z3.out.step q10)
  replace Z4 := Lib.hid (Z4.out.step q10)
  obtain rfl := he2.out _ _ HB0.out hB2
  skip
  have k_Z3 := Z3.out.blk.cell; have l_Z3 := Z3.out.blk.lt
  go_wp2_with fail
  clear k_Z3 l_Z3
  refine (cost_any _ t3 x y AX AY cX cY _ Z3.out.mach hv3.out RX.out RY.out (by omega) (by omega) BX.out BY.out hc3.out).mono ?_; rintro e w11 ⟨s3, rfl, hB3, q11⟩
  have b11 : Below w.heap.size w w11 := b10.trans (q11.mono b10.size)
  replace X1 := Lib.hid (X1.out.step q11)
  replace RX := Lib.hid (RX.out.below q11 rfl)
  replace RY := Lib.hid (RY.out.below q11 rfl)
  replace Z1 := Lib.hid (Z1.out.step q11)
  replace Z2 := Lib.hid (Z2.out.step q11)
  replace Z3 := Lib.hid (Z3.out.step q11)
  replace Z4 := Lib.hid (Z4.out.step q11)
  obtain rfl := he3.out _ _ HB0.out hB3
  skip
  have k_Z4 := Z4.out.blk.cell; have l_Z4 := Z4.out.blk.lt
  go_wp2_with fail
  clear k_Z4 l_Z4
  refine (cost_any _ t4 x y AX AY cX cY _ Z4.out.mach hv4.out RX.out RY.out (by omega) (by omega) BX.out BY.out hc4.out).mono ?_; rintro e w12 ⟨s4, rfl, hB4, q12⟩
  have b12 : Below w.heap.size w w12 := b11.trans (q12.mono b11.size)
  replace X1 := Lib.hid (X1.out.step q12)
  replace RX := Lib.hid (RX.out.below q12 rfl)
  replace RY := Lib.hid (RY.out.below q12 rfl)
  replace Z1 := Lib.hid (Z1.out.step q12)
  replace Z2 := Lib.hid (Z2.out.step q12)
  replace Z3 := Lib.hid (Z3.out.step q12)
  replace Z4 := Lib.hid (Z4.out.step q12)
  obtain rfl := he4.out _ _ HB0.out hB4
  skip
  go_wp2_with fail
  all_goals
    go_ret
    exact ⟨by first | rfl | (simp; done), b12⟩
end weighArranged
end Go.Proofs.Ytlfjccgbngnjhaa
