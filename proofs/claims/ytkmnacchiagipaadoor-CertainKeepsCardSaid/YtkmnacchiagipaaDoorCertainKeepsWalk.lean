/- The walk of CertainKeeps. -/
import Derived.Test.YtkmnacchiagipaaDoorCertUse
import Derived.Test.YtkmnacchiagipaaDoorBitsWalk
import Derived.Test.YtkmnacchiagipaaDoorAlike
namespace Go.Proofs.YtkmnacchiagipaaDoor
open Go.RowKit

namespace certainKeeps
set_option maxRecDepth 100000 in
set_option maxHeartbeats 8000000 in
theorem walk {w : World} (ht : TabP w) (v1 : Value) (r1 : RawL) (hr1 : RawArg w v1 r1) (A1 : Option Addr) (n1 k1 : Nat) (xs : List Int) (hx : IntArg w A1 n1 xs) (A2 : Option Addr) (n2 k2 : Nat) (ys : List Int) (hy : IntArg w A2 n2 ys) :
    Calls Tryd.prog 7 #[v1, .slice A1 n1 k1, .slice A2 n2 k2] w fun e w' => e = .returned (.bool true) ∧ Below w.heap.size w w' := by
  have hma : Valid (mkMach r1 5 true) := valid_made r1 5 true (by omega) (by omega)
  have hla := made_little r1 5 true (by omega)
  have ha0 : 0 ≤ (mkMach r1 5 true).start := pick_lo _ _ (by unfold mkN; omega)
  have hfu := made_full r1 5; have hfa := made_fullA r1 5
  have HM1 := Lib.hid (fun W hb => made_any v1 r1 5 true W (hr1.below hb) (by omega) (by omega))
  have HWX := Lib.hid (fun W hb => word_any A1 n1 k1 xs 4 W (hx.below hb) (by omega))
  have HWY := Lib.hid (fun W hb => word_any A2 n2 k2 ys 4 W (hy.below hb) (by omega))
  have lx := mkWord_len xs 4; have ly := mkWord_len ys 4
  have BX := Lib.hid (word_b xs 4); have BY := Lib.hid (word_b ys 4)
  have HT := Lib.hid ht
  obtain ⟨-, -, A, c, rfl, -⟩ := hr1
  generalize mkMach r1 5 true = a at *
  generalize mkWord xs 4 = x at *
  generalize mkWord ys 4 = y at *
  have hwa := wtC_of hma (wtU_of hla)
  have HMK := Lib.hid (fun va W h hb => Make_use va a 9 W h hma hwa (by omega) hfu ha0 (ht.below hb))
  have HV := Lib.hid hma; have HWA := Lib.hid hwa; have HA0 := Lib.hid ha0; have HFA := Lib.hid hfa
  have hc0 := Lib.hid (hla.ok 4 4 lx ly (by omega))
  clear hma hla hx hy ha0 hwa hfu hfa ht
  go_enter Tryd.func7, Tryd.ntmps7
  go_upto_region 1 with fail
  have R1 : Hid (Blk (w.alloc (.cells #[.int .i64 r1.start, .slice A r1.nodes.length c] 62)) (w.heap.size) #[.int .i64 r1.start, .slice A r1.nodes.length c] 62) := Lib.hid (Blk.new' (by simp))
  have b0 : Below w.heap.size w (w.alloc (.cells #[.int .i64 r1.start, .slice A r1.nodes.length c] 62)) := (by repeat' (first | exact Below.refl _ _ | assumption | refine Below.drew ?_ | refine Below.alloc ?_ (by first | omega | (simp; done) | (simp; omega)) _ | refine Below.setCell ?_ (by first | omega | (simp; done) | (simp; omega)) _))
  generalize (w.alloc (.cells #[.int .i64 r1.start, .slice A r1.nodes.length c] 62)) = w0 at *
  have k_R1 := R1.out.cell; have l_R1 := R1.out.lt
  go_wp2_with fail
  clear k_R1 l_R1
  refine (HM1.out _ b0).mono ?_; rintro e w1 ⟨mv1, rfl, o1, q1⟩
  have b1 : Below w.heap.size w w1 := b0.trans (q1.mono b0.size)
  replace R1 := Lib.hid (R1.out.step q1)
  obtain ⟨A3, c3, rfl, s1⟩ := own_open o1
  have X1 := Lib.hid (MBox.new (c := c3) s1)
  clear o1 s1
  go_upto_region 2 with fail
  have b1a := b1.alloc b1.size (.cells #[.int .i64 a.start, .slice A3 a.states.length c3] 41)
  generalize w1.alloc (.cells #[.int .i64 a.start, .slice A3 a.states.length c3] 41) = w1a at *
  generalize w1.heap.size = ba at *
  have k_X1 := X1.out.blk.cell; have l_X1 := X1.out.blk.lt
  go_wp2_with fail
  clear k_X1 l_X1
  refine (HMK.out _ _ X1.out.mach b1a).mono ?_; rintro e w2 ⟨⟨C1, kk1, m1, er1, rfl, hco⟩, q2⟩
  have b2 : Below w.heap.size w w2 := b1a.trans (q2.mono b1a.size)
  replace X1 := Lib.hid (X1.out.step q2)
  have Y1 := Lib.hid (Blk.new w2 #[.int .i64 0, .slice C1 m1 kk1] 41)
  have E1 := Lib.hid (hco.alloc (.cells #[.int .i64 0, .slice C1 m1 kk1] 41))
  clear hco
  go_upto_region 3 with fail
  replace X1 := Lib.hid (X1.out.alloc (.cells #[.int .i64 0, .slice C1 m1 kk1] 41))
  have b2a := b2.alloc b2.size (.cells #[.int .i64 0, .slice C1 m1 kk1] 41)
  generalize w2.alloc (.cells #[.int .i64 0, .slice C1 m1 kk1] 41) = w2a at *
  generalize w2.heap.size = y1 at *
  rcases E1.out.full with ⟨rfl, rfl, rfl, rfl, -⟩ | ⟨rfl, z, hf1⟩
  · have k1 := Y1.out.cell; have l1 := Y1.out.lt
    go_wp2_with fail
    go_ret
    exact ⟨rfl, b2a⟩
  have H1 := Lib.hid hf1
  clear hf1 E1
  have HB1 := Lib.hid (H1.out.ok.bits HFA.out)
  have k_Y1 := Y1.out.cell; have l_Y1 := Y1.out.lt
  go_wp2_with fail
  clear k_Y1 l_Y1
  refine (Bits_any _ z _ H1.out.mach H1.out.v).mono ?_; rintro e w3 ⟨rfl, q3⟩
  have b3 : Below w.heap.size w w3 := b2a.trans (q3.mono b2a.size)
  replace X1 := Lib.hid (X1.out.step q3)
  replace Y1 := Lib.hid (Y1.out.step q3)
  replace H1 := Lib.hid (H1.out.step q3)
  obtain ⟨hb2, hb3, hb1⟩ := HB1.out
  generalize bitsOf z.states = BB at *
  obtain ⟨B0, B1, B2, B3, B4⟩ := BB
  simp only at hb1 hb2 hb3
  subst hb1; subst hb2; subst hb3
  go_upto_region 6 with fail
  have P1 := Lib.hid (Blk.new w3 #[.bool B0, .bool true, .bool true, .bool true, .bool B4] 66)
  replace X1 := Lib.hid (X1.out.alloc (.cells #[.bool B0, .bool true, .bool true, .bool true, .bool B4] 66))
  replace Y1 := Lib.hid (Y1.out.step (show Below w3.heap.size w3 (w3.alloc (.cells #[.bool B0, .bool true, .bool true, .bool true, .bool B4] 66)) from (Below.refl _ _).alloc (Nat.le_refl _) _))
  replace H1 := Lib.hid (H1.out.alloc (.cells #[.bool B0, .bool true, .bool true, .bool true, .bool B4] 66))
  have b3a := b3.alloc b3.size (.cells #[.bool B0, .bool true, .bool true, .bool true, .bool B4] 66)
  generalize w3.alloc (.cells #[.bool B0, .bool true, .bool true, .bool true, .bool B4] 66) = w3a at *
  generalize w3.heap.size = bp at *
  go_wp2_with fail
  refine (HWX.out _ b3a).mono ?_; rintro e w4 ⟨xv, rfl, ox, q4⟩
  have b4 : Below w.heap.size w w4 := b3a.trans (q4.mono b3a.size)
  replace X1 := Lib.hid (X1.out.step q4)
  replace Y1 := Lib.hid (Y1.out.step q4)
  replace H1 := Lib.hid (H1.out.step q4)
  replace P1 := Lib.hid (P1.out.step q4)
  obtain ⟨AX, cX, rfl, rx⟩ := word_open ox
  have RX := Lib.hid rx
  clear ox rx
  go_wp2_with fail
  refine (HWY.out _ b4).mono ?_; rintro e w5 ⟨xv, rfl, ox, q5⟩
  have b5 : Below w.heap.size w w5 := b4.trans (q5.mono b4.size)
  replace X1 := Lib.hid (X1.out.step q5)
  replace Y1 := Lib.hid (Y1.out.step q5)
  replace H1 := Lib.hid (H1.out.step q5)
  replace P1 := Lib.hid (P1.out.step q5)
  replace RX := Lib.hid (RX.out.below q5 rfl)
  obtain ⟨AY, cY, rfl, rx⟩ := word_open ox
  have RY := Lib.hid rx
  clear ox rx
  have k_X1 := X1.out.blk.cell; have l_X1 := X1.out.blk.lt
  go_wp2_with fail
  clear k_X1 l_X1
  refine (cost_any _ a x y AX AY cX cY _ X1.out.mach HV.out RX.out RY.out (by omega) (by omega) BX.out BY.out hc0.out).mono ?_; rintro e w6 ⟨rc, rfl, hB0, q6⟩
  have b6 : Below w.heap.size w w6 := b5.trans (q6.mono b5.size)
  replace X1 := Lib.hid (X1.out.step q6)
  replace Y1 := Lib.hid (Y1.out.step q6)
  replace H1 := Lib.hid (H1.out.step q6)
  replace P1 := Lib.hid (P1.out.step q6)
  replace RX := Lib.hid (RX.out.below q6 rfl)
  replace RY := Lib.hid (RY.out.below q6 rfl)
  have HB0 := Lib.hid hB0
  have hcn := (hB0.nonneg HV.out).1
  clear hB0
  have k_X1 := X1.out.blk.cell; have l_X1 := X1.out.blk.lt
  have k_Y1 := Y1.out.cell; have l_Y1 := Y1.out.lt
  have k_P1 := P1.out.cell; have l_P1 := P1.out.lt
  go_wp2_with fail
  clear k_X1 l_X1 k_Y1 l_Y1 k_P1 l_P1
  refine (cost_any _ z x y AX AY cX cY _ H1.out.mach H1.out.v RX.out RY.out (by omega) (by omega) BX.out BY.out (wtU_costOk H1.out.v (H1.out.ok.wt HWA.out H1.out.v.size) (by omega) lx ly)).mono ?_; rintro e w7 ⟨s1, rfl, hB1, q7⟩
  have b7 : Below w.heap.size w w7 := b6.trans (q7.mono b6.size)
  replace X1 := Lib.hid (X1.out.step q7)
  replace Y1 := Lib.hid (Y1.out.step q7)
  replace H1 := Lib.hid (H1.out.step q7)
  replace P1 := Lib.hid (P1.out.step q7)
  replace RX := Lib.hid (RX.out.below q7 rfl)
  replace RY := Lib.hid (RY.out.below q7 rfl)
  obtain rfl := H1.out.ok.best HWA.out HA0.out HB0.out hB1
  clear hB1
  go_wp2_with fail
  all_goals
    go_ret
    exact ⟨by first | rfl | (simp; done), b7⟩
end certainKeeps
end Go.Proofs.YtkmnacchiagipaaDoor
