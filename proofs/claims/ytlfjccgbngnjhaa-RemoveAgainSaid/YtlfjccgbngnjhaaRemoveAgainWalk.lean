/- The walk of RemoveAgain. -/
import Derived.Test.YtlfjccgbngnjhaaRemoveUse
import Derived.Test.YtlfjccgbngnjhaaBitsWalk
namespace Go.Proofs.Ytlfjccgbngnjhaa
open Go.RowKit

namespace removeAgain
set_option maxRecDepth 100000 in
set_option maxHeartbeats 8000000 in
theorem walk {w : World} (v1 : Value) (r1 : RawL) (hr1 : RawArg w v1 r1) :
    Calls Try.prog 6 #[v1] w fun e w' => e = .returned (.bool true) ∧ Below w.heap.size w w' := by
  have hma : Valid (mkMach r1 6 false) := valid_made r1 6 false (by omega) (by omega)
  have hmb : Valid (mkMach r1 6 true) := valid_made r1 6 true (by omega) (by omega)
  have hro := made_remOk r1 false; have hrb := made_remOk r1 true
  have hne := made_noEmpty r1 6
  have HM1 := Lib.hid (fun W hb => made_any v1 r1 6 false W (hr1.below hb) (by omega) (by omega))
  have HM2 := Lib.hid (fun W hb => made_any v1 r1 6 true W (hr1.below hb) (by omega) (by omega))
  obtain ⟨-, -, A, c, rfl, -⟩ := hr1
  generalize mkMach r1 6 false = a at *
  generalize mkMach r1 6 true = b at *
  have HR := Lib.hid (fun va W h => Remove_any va a 9 W h hma hro)
  have HRB := Lib.hid (fun va W h => Remove_any va b 9 W h hmb hrb)
  have HG := Lib.hid (fun va W h => Merged_any va b W h hmb)
  have HE := Lib.hid (fun z (h : RemR b z) => h.merged hne)
  have HVG := Lib.hid (arrM_valid drops_merge hmb)
  have HRO := Lib.hid hro
  clear hma hmb hro hrb hne
  generalize arrM mergeL b = k at *
  go_enter Try.func6, Try.ntmps6
  go_upto_region 1 with fail
  have R1 : Hid (Blk (w.alloc (.cells #[.int .i64 r1.start, .slice A r1.nodes.length c] 24)) (w.heap.size) #[.int .i64 r1.start, .slice A r1.nodes.length c] 24) := Lib.hid (Blk.new' (by simp))
  have b0 : Below w.heap.size w (w.alloc (.cells #[.int .i64 r1.start, .slice A r1.nodes.length c] 24)) := (by repeat' (first | exact Below.refl _ _ | assumption | refine Below.drew ?_ | refine Below.alloc ?_ (by first | omega | (simp; done) | (simp; omega)) _ | refine Below.setCell ?_ (by first | omega | (simp; done) | (simp; omega)) _))
  generalize (w.alloc (.cells #[.int .i64 r1.start, .slice A r1.nodes.length c] 24)) = w0 at *
  have k_R1 := R1.out.cell; have l_R1 := R1.out.lt
  go_wp2_with fail
  clear k_R1 l_R1
  refine (HM1.out _ b0).mono ?_; rintro e w1 ⟨mv1, rfl, o1, q1⟩
  have b1 : Below w.heap.size w w1 := b0.trans (q1.mono b0.size)
  replace R1 := Lib.hid (R1.out.step q1)
  obtain ⟨A3, c3, rfl, s1⟩ := own_open o1
  have X1 := Lib.hid (MBox.new (c := c3) s1)
  clear o1 s1
  go_upto_region 2 with fail
  replace R1 := Lib.hid (R1.out.alloc (.cells #[.int .i64 a.start, .slice A3 a.states.length c3] 27))
  have b1a := b1.alloc b1.size (.cells #[.int .i64 a.start, .slice A3 a.states.length c3] 27)
  generalize w1.alloc (.cells #[.int .i64 a.start, .slice A3 a.states.length c3] 27) = w1a at *
  generalize w1.heap.size = ba at *
  have k_X1 := X1.out.blk.cell; have l_X1 := X1.out.blk.lt
  go_wp2_with fail
  clear k_X1 l_X1
  refine (HR.out _ _ X1.out.mach).mono ?_; rintro e w2 ⟨mvx, x, rfl, ox, hz0, q2⟩
  have b2 : Below w.heap.size w w2 := b1a.trans (q2.mono b1a.size)
  replace R1 := Lib.hid (R1.out.step q2)
  replace X1 := Lib.hid (X1.out.step q2)
  have HZ := Lib.hid hz0
  clear hz0
  obtain ⟨A6, c6, rfl, sx⟩ := own_open ox
  have Z1 := Lib.hid (MBox.new (c := c6) sx)
  clear ox sx
  go_upto_region 3 with fail
  replace R1 := Lib.hid (R1.out.alloc (.cells #[.int .i64 x.start, .slice A6 x.states.length c6] 27))
  replace X1 := Lib.hid (X1.out.alloc (.cells #[.int .i64 x.start, .slice A6 x.states.length c6] 27))
  have b2a := b2.alloc b2.size (.cells #[.int .i64 x.start, .slice A6 x.states.length c6] 27)
  generalize w2.alloc (.cells #[.int .i64 x.start, .slice A6 x.states.length c6] 27) = w2a at *
  generalize w2.heap.size = bx at *
  have k_Z1 := Z1.out.blk.cell; have l_Z1 := Z1.out.blk.lt
  go_wp2_with fail
  clear k_Z1 l_Z1
  refine (Remove_any _ x 63 _ Z1.out.mach HZ.out.valid (HZ.out.ok HRO.out.n6)).mono ?_; rintro e w3 ⟨mvx, y, rfl, ox, hy0, q3⟩
  have b3 : Below w.heap.size w w3 := b2a.trans (q3.mono b2a.size)
  replace R1 := Lib.hid (R1.out.step q3)
  replace X1 := Lib.hid (X1.out.step q3)
  replace Z1 := Lib.hid (Z1.out.step q3)
  obtain rfl := HZ.out.rem.again hy0.rem
  clear hy0
  obtain ⟨A7, c7, rfl, sx⟩ := own_open ox
  have Z2 := Lib.hid (MBox.new (c := c7) sx)
  clear ox sx
  go_upto_region 4 with fail
  replace R1 := Lib.hid (R1.out.alloc (.cells #[.int .i64 x.start, .slice A7 x.states.length c7] 27))
  replace X1 := Lib.hid (X1.out.alloc (.cells #[.int .i64 x.start, .slice A7 x.states.length c7] 27))
  replace Z1 := Lib.hid (Z1.out.alloc (.cells #[.int .i64 x.start, .slice A7 x.states.length c7] 27))
  have b3a := b3.alloc b3.size (.cells #[.int .i64 x.start, .slice A7 x.states.length c7] 27)
  generalize w3.alloc (.cells #[.int .i64 x.start, .slice A7 x.states.length c7] 27) = w3a at *
  generalize w3.heap.size = by_ at *
  have k_R1 := R1.out.cell; have l_R1 := R1.out.lt
  go_wp2_with fail
  clear k_R1 l_R1
  refine (HM2.out _ b3a).mono ?_; rintro e w4 ⟨mv2, rfl, o2, q4⟩
  have b4 : Below w.heap.size w w4 := b3a.trans (q4.mono b3a.size)
  replace R1 := Lib.hid (R1.out.step q4)
  replace X1 := Lib.hid (X1.out.step q4)
  replace Z1 := Lib.hid (Z1.out.step q4)
  replace Z2 := Lib.hid (Z2.out.step q4)
  obtain ⟨A4, c4, rfl, s2⟩ := own_open o2
  have X2 := Lib.hid (MBox.new (c := c4) s2)
  clear o2 s2
  go_upto_region 5 with fail
  replace X1 := Lib.hid (X1.out.alloc (.cells #[.int .i64 b.start, .slice A4 b.states.length c4] 27))
  replace Z1 := Lib.hid (Z1.out.alloc (.cells #[.int .i64 b.start, .slice A4 b.states.length c4] 27))
  replace Z2 := Lib.hid (Z2.out.alloc (.cells #[.int .i64 b.start, .slice A4 b.states.length c4] 27))
  have b4a := b4.alloc b4.size (.cells #[.int .i64 b.start, .slice A4 b.states.length c4] 27)
  generalize w4.alloc (.cells #[.int .i64 b.start, .slice A4 b.states.length c4] 27) = w4a at *
  generalize w4.heap.size = bb at *
  have k_X2 := X2.out.blk.cell; have l_X2 := X2.out.blk.lt
  go_wp2_with fail
  clear k_X2 l_X2
  refine (HRB.out _ _ X2.out.mach).mono ?_; rintro e w5 ⟨mvx, z, rfl, ox, hq0, q5⟩
  have b5 : Below w.heap.size w w5 := b4a.trans (q5.mono b4a.size)
  replace X1 := Lib.hid (X1.out.step q5)
  replace Z1 := Lib.hid (Z1.out.step q5)
  replace Z2 := Lib.hid (Z2.out.step q5)
  replace X2 := Lib.hid (X2.out.step q5)
  obtain rfl := HE.out _ hq0.rem
  clear hq0 HE
  obtain ⟨A8, c8, rfl, sx⟩ := own_open ox
  have Z3 := Lib.hid (MBox.new (c := c8) sx)
  clear ox sx
  go_upto_region 6 with fail
  replace X1 := Lib.hid (X1.out.alloc (.cells #[.int .i64 z.start, .slice A8 z.states.length c8] 27))
  replace Z1 := Lib.hid (Z1.out.alloc (.cells #[.int .i64 z.start, .slice A8 z.states.length c8] 27))
  replace Z2 := Lib.hid (Z2.out.alloc (.cells #[.int .i64 z.start, .slice A8 z.states.length c8] 27))
  replace X2 := Lib.hid (X2.out.alloc (.cells #[.int .i64 z.start, .slice A8 z.states.length c8] 27))
  have b5a := b5.alloc b5.size (.cells #[.int .i64 z.start, .slice A8 z.states.length c8] 27)
  generalize w5.alloc (.cells #[.int .i64 z.start, .slice A8 z.states.length c8] 27) = w5a at *
  generalize w5.heap.size = bz at *
  have k_X2 := X2.out.blk.cell; have l_X2 := X2.out.blk.lt
  go_wp2_with fail
  clear k_X2 l_X2
  refine (HG.out _ _ X2.out.mach).mono ?_; rintro e w6 ⟨mvx, rfl, ox, q6⟩
  have b6 : Below w.heap.size w w6 := b5a.trans (q6.mono b5a.size)
  replace X1 := Lib.hid (X1.out.step q6)
  replace Z1 := Lib.hid (Z1.out.step q6)
  replace Z2 := Lib.hid (Z2.out.step q6)
  replace X2 := Lib.hid (X2.out.step q6)
  replace Z3 := Lib.hid (Z3.out.step q6)
  obtain ⟨A9, c9, rfl, sx⟩ := own_open ox
  have Z4 := Lib.hid (MBox.new (c := c9) sx)
  clear ox sx
  go_upto_region 7 with fail
  replace X1 := Lib.hid (X1.out.alloc (.cells #[.int .i64 z.start, .slice A9 z.states.length c9] 27))
  replace Z1 := Lib.hid (Z1.out.alloc (.cells #[.int .i64 z.start, .slice A9 z.states.length c9] 27))
  replace Z2 := Lib.hid (Z2.out.alloc (.cells #[.int .i64 z.start, .slice A9 z.states.length c9] 27))
  replace X2 := Lib.hid (X2.out.alloc (.cells #[.int .i64 z.start, .slice A9 z.states.length c9] 27))
  replace Z3 := Lib.hid (Z3.out.alloc (.cells #[.int .i64 z.start, .slice A9 z.states.length c9] 27))
  have b6a := b6.alloc b6.size (.cells #[.int .i64 z.start, .slice A9 z.states.length c9] 27)
  generalize w6.alloc (.cells #[.int .i64 z.start, .slice A9 z.states.length c9] 27) = w6a at *
  generalize w6.heap.size = bk at *
  have hl1 := eq_same _ _ HZ.out.rem.len
  have k_Z1 := Z1.out.blk.cell; have l_Z1 := Z1.out.blk.lt
  have k_Z2 := Z2.out.blk.cell; have l_Z2 := Z2.out.blk.lt
  go_wp2_with fail
  clear k_Z1 l_Z1 k_Z2 l_Z2
  refine (alike_yes _ _ x _ Z1.out.mach Z2.out.mach HZ.out.valid.size (valid_arcs_le HZ.out.valid)).mono ?_; rintro e w7 ⟨rfl, q7⟩
  have b7 : Below w.heap.size w w7 := b6a.trans (q7.mono b6a.size)
  replace X1 := Lib.hid (X1.out.step q7)
  replace Z1 := Lib.hid (Z1.out.step q7)
  replace Z2 := Lib.hid (Z2.out.step q7)
  replace X2 := Lib.hid (X2.out.step q7)
  replace Z3 := Lib.hid (Z3.out.step q7)
  replace Z4 := Lib.hid (Z4.out.step q7)
  have k_Z3 := Z3.out.blk.cell; have l_Z3 := Z3.out.blk.lt
  have k_Z4 := Z4.out.blk.cell; have l_Z4 := Z4.out.blk.lt
  go_wp2_with fail
  clear k_Z3 l_Z3 k_Z4 l_Z4
  refine (alike_yes _ _ z _ Z3.out.mach Z4.out.mach HVG.out.size (valid_arcs_le HVG.out)).mono ?_; rintro e w8 ⟨rfl, q8⟩
  have b8 : Below w.heap.size w w8 := b7.trans (q8.mono b7.size)
  replace X1 := Lib.hid (X1.out.step q8)
  replace Z1 := Lib.hid (Z1.out.step q8)
  replace Z2 := Lib.hid (Z2.out.step q8)
  replace X2 := Lib.hid (X2.out.step q8)
  replace Z3 := Lib.hid (Z3.out.step q8)
  replace Z4 := Lib.hid (Z4.out.step q8)
  have k_X1 := X1.out.blk.cell; have l_X1 := X1.out.blk.lt
  have k_Z1 := Z1.out.blk.cell; have l_Z1 := Z1.out.blk.lt
  go_wp2_with fail
  all_goals
    go_ret
    exact ⟨by first | rfl | (simp; done), b8⟩
end removeAgain
end Go.Proofs.Ytlfjccgbngnjhaa
