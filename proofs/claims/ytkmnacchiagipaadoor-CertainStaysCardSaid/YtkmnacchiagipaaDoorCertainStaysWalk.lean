/- The walk of CertainStays. -/
import Derived.Test.YtkmnacchiagipaaDoorCertUse
import Derived.Test.YtkmnacchiagipaaDoorBitsWalk
import Derived.Test.YtkmnacchiagipaaDoorAlike
namespace Go.Proofs.YtkmnacchiagipaaDoor
open Go.RowKit

theorem CertOk.again {m x y : MachL} {WW WW' : Int} (h : CertOk m WW x) (h' : CertOk x WW' y) : y = x := by
  obtain ⟨h0, Ss, hI, hl⟩ := h
  exact stays_done hI hl h0 h'
theorem CertOk.never {m x : MachL} {WW WW' : Int} (h : CertOk m WW x) (hv : Valid x) : ¬ CertFull x WW' := by
  rintro ⟨Ts, ys, cur, S, ks, hI', hC, hbig⟩
  obtain ⟨h0, Ss, hI, hl⟩ := h
  obtain ⟨-, -, h3, h4⟩ := stays_stage hI hl h0 hI' (.inr hC)
  have h5 := hv.size; have h6 := hv.arcs
  omega

namespace certainStays
set_option maxRecDepth 100000 in
set_option maxHeartbeats 8000000 in
theorem walk {w : World} (ht : TabP w) (v1 : Value) (r1 : RawL) (hr1 : RawArg w v1 r1) :
    Calls Tryd.prog 8 #[v1] w fun e w' => e = .returned (.bool true) ∧ Below w.heap.size w w' := by
  have hma : Valid (mkMach r1 4 true) := valid_made r1 4 true (by omega) (by omega)
  have hla := made_little r1 4 true (by omega)
  have ha0 : 0 ≤ (mkMach r1 4 true).start := pick_lo _ _ (by unfold mkN; omega)
  have hfu := made_full r1 4; have hfa := made_fullA r1 4
  have HM1 := Lib.hid (fun W hb => made_any v1 r1 4 true W (hr1.below hb) (by omega) (by omega))
  have HT := Lib.hid ht
  obtain ⟨-, -, A, c, rfl, -⟩ := hr1
  generalize mkMach r1 4 true = a at *
  have hwa := wtC_of hma (wtU_of hla)
  have HMK := Lib.hid (fun va W h hb => Make_use va a 9 W h hma hwa (by omega) hfu ha0 (ht.below hb))
  have HV := Lib.hid hma; have HWA := Lib.hid hwa; have HA0 := Lib.hid ha0; have HFA := Lib.hid hfa
  clear hma hla ha0 hwa hfu hfa ht
  go_enter Tryd.func8, Tryd.ntmps8
  go_upto_region 1 with fail
  have R1 : Hid (Blk (w.alloc (.cells #[.int .i64 r1.start, .slice A r1.nodes.length c] 62)) (w.heap.size) #[.int .i64 r1.start, .slice A r1.nodes.length c] 62) := Lib.hid (Blk.new' (by simp))
  have b0 : Below w.heap.size w (w.alloc (.cells #[.int .i64 r1.start, .slice A r1.nodes.length c] 62)) := (by repeat' (first | exact Below.refl _ _ | assumption | refine Below.drew ?_ | refine Below.alloc ?_ (by first | omega | (simp; done) | (simp; omega)) _ | refine Below.setCell ?_ (by first | omega | (simp; done) | (simp; omega)) _))
  generalize (w.alloc (.cells #[.int .i64 r1.start, .slice A r1.nodes.length c] 62)) = w0 at *
  have k_R1 := R1.out.cell; have l_R1 := R1.out.lt
  go_wp2_with fail
  clear k_R1 l_R1
  refine (HM1.out _ b0).mono ?_; rintro e w1 ⟨mv1, rfl, o1, q1⟩
  have b1 : Below w.heap.size w w1 := b0.trans (q1.mono b0.size)
  replace R1 := Lib.hid (R1.out.step q1)
  obtain ⟨A3, c3, rfl, s1⟩ := own_open o1
  have X1 := Lib.hid (MBox.new (c := c3) s1)
  clear o1 s1
  go_upto_region 2 with fail
  have b1a := b1.alloc b1.size (.cells #[.int .i64 a.start, .slice A3 a.states.length c3] 41)
  generalize w1.alloc (.cells #[.int .i64 a.start, .slice A3 a.states.length c3] 41) = w1a at *
  generalize w1.heap.size = ba at *
  have k_X1 := X1.out.blk.cell; have l_X1 := X1.out.blk.lt
  go_wp2_with fail
  clear k_X1 l_X1
  refine (HMK.out _ _ X1.out.mach b1a).mono ?_; rintro e w2 ⟨⟨C1, kk1, m1, er1, rfl, hco⟩, q2⟩
  have b2 : Below w.heap.size w w2 := b1a.trans (q2.mono b1a.size)
  replace X1 := Lib.hid (X1.out.step q2)
  have Y1 := Lib.hid (Blk.new w2 #[.int .i64 0, .slice C1 m1 kk1] 41)
  have E1 := Lib.hid (hco.alloc (.cells #[.int .i64 0, .slice C1 m1 kk1] 41))
  clear hco
  go_upto_region 3 with fail
  replace X1 := Lib.hid (X1.out.alloc (.cells #[.int .i64 0, .slice C1 m1 kk1] 41))
  have b2a := b2.alloc b2.size (.cells #[.int .i64 0, .slice C1 m1 kk1] 41)
  generalize w2.alloc (.cells #[.int .i64 0, .slice C1 m1 kk1] 41) = w2a at *
  generalize w2.heap.size = y1 at *
  rcases E1.out.full with ⟨rfl, rfl, rfl, rfl, -⟩ | ⟨rfl, z, hf1⟩
  · have k1 := Y1.out.cell; have l1 := Y1.out.lt
    go_wp2_with fail
    go_ret
    exact ⟨rfl, b2a⟩
  have H1 := Lib.hid hf1
  clear hf1 E1
  have hp1 := H1.out.pos
  have HM2 := Lib.hid (fun va W h hb => Make_use va z (9 * 61) W h H1.out.v (wtC_of H1.out.v (H1.out.ok.wt HWA.out H1.out.v.size)) (by omega) (H1.out.ok.bits HFA.out).2.2 (by rw [H1.out.st]; exact Int.le_refl 0) (HT.out.below hb))
  have k_Y1 := Y1.out.cell; have l_Y1 := Y1.out.lt
  go_wp2_with fail
  clear k_Y1 l_Y1
  refine (HM2.out _ _ H1.out.mach b2a).mono ?_; rintro e w3 ⟨⟨C2, kk2, m2, er2, rfl, hco⟩, q3⟩
  have b3 : Below w.heap.size w w3 := b2a.trans (q3.mono b2a.size)
  replace X1 := Lib.hid (X1.out.step q3)
  replace Y1 := Lib.hid (Y1.out.step q3)
  replace H1 := Lib.hid (H1.out.step q3)
  have Y2 := Lib.hid (Blk.new w3 #[.int .i64 0, .slice C2 m2 kk2] 41)
  have E2 := Lib.hid (hco.alloc (.cells #[.int .i64 0, .slice C2 m2 kk2] 41))
  clear hco
  go_upto_region 6 with fail
  replace X1 := Lib.hid (X1.out.alloc (.cells #[.int .i64 0, .slice C2 m2 kk2] 41))
  replace Y1 := Lib.hid (Y1.out.alloc (.cells #[.int .i64 0, .slice C2 m2 kk2] 41))
  replace H1 := Lib.hid (H1.out.alloc (.cells #[.int .i64 0, .slice C2 m2 kk2] 41))
  have b3a := b3.alloc b3.size (.cells #[.int .i64 0, .slice C2 m2 kk2] 41)
  generalize w3.alloc (.cells #[.int .i64 0, .slice C2 m2 kk2] 41) = w3a at *
  generalize w3.heap.size = y2 at *
  rcases E2.out.full with ⟨-, -, -, -, hfull⟩ | ⟨rfl, z2, hf2⟩
  · exact absurd hfull (H1.out.ok.never H1.out.v)
  have H2 := Lib.hid hf2
  clear hf2 E2
  obtain rfl : z2 = z := H1.out.ok.again H2.out.ok
  have k_Y1 := Y1.out.cell; have l_Y1 := Y1.out.lt
  have k_Y2 := Y2.out.cell; have l_Y2 := Y2.out.lt
  go_wp2_with fail
  clear k_Y1 l_Y1 k_Y2 l_Y2
  refine (alike_yes _ _ z2 _ H1.out.mach H2.out.mach H1.out.v.size (valid_arcs_le H1.out.v)).mono ?_; rintro e w4 ⟨rfl, q4⟩
  have b4 : Below w.heap.size w w4 := b3a.trans (q4.mono b3a.size)
  replace X1 := Lib.hid (X1.out.step q4)
  replace Y1 := Lib.hid (Y1.out.step q4)
  replace H1 := Lib.hid (H1.out.step q4)
  replace Y2 := Lib.hid (Y2.out.step q4)
  replace H2 := Lib.hid (H2.out.step q4)
  go_wp2_with fail
  all_goals
    go_ret
    exact ⟨by first | rfl | (simp; done), b4⟩
end certainStays
end Go.Proofs.YtkmnacchiagipaaDoor
