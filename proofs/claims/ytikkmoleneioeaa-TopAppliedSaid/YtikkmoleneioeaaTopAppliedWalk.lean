/- The walk of TopApplied. -/
import Derived.Test.YtikkmoleneioeaaAppliedPl
import Derived.Deep.CutBlock
namespace Go.Proofs.Ytikkmoleneioeaa
open Go.RowKit

namespace topApplied
set_option maxRecDepth 100000 in
set_option maxHeartbeats 8000000 in
theorem walk {w : World} (v1 : Value) (r1 : RawL) (hr1 : RawArg w v1 r1) (A1 : Option Addr) (n1 k1 : Nat) (xs : List Int) (hx : IntArg w A1 n1 xs) (cu : Int) (hcu1 : -9223372036854775808 ≤ cu) (hcu2 : cu ≤ 9223372036854775807) :
    Calls Try.prog 7 #[v1, .slice A1 n1 k1, .int .i64 cu] w fun e w' => e = .returned (.bool true) ∧ Below w.heap.size w w' := by
  have hma : Valid (mkMach r1 5 false) := valid_made r1 5 false (by omega) (by omega)
  have hla := made_little r1 5 false (by omega)
  have hss := made_smallS r1 5 (by omega) (by omega)
  have hfq := made_finQ r1 5 (by omega)
  have ha0 : 0 ≤ (mkMach r1 5 false).start := pick_lo _ _ (by unfold mkN; omega)
  have HM1 := Lib.hid (fun W hb => Made_k v1 r1 5 (by omega) (by omega) W (hr1.below hb))
  have HWX := Lib.hid (fun W hb => Word_c A1 n1 k1 xs 5 W (hx.below hb) (by omega))
  have lx := mkWord_len xs 5
  have BX := Lib.hid (word_b xs 5)
  obtain ⟨-, -, A, c, rfl, -⟩ := hr1
  generalize mkMach r1 5 false = a at *
  generalize mkWord xs 5 = x at *
  have hnx : crossN x x ≤ 5 := by unfold crossN; omega
  have hvx : Valid (crossM x x) := cross_valid BX.out BX.out (by omega)
  have hwx := (cross_little hnx).wt9
  have HVA := Lib.hid hma; have HS := Lib.hid hss; have HFQ := Lib.hid hfq; have HA0 := Lib.hid ha0
  have HC1 := Lib.hid (fun va vb W h1 h2 => compose_use va vb (crossM x x) a 9 9 W h1 h2 hvx hma (Int.le_refl 0) ha0 hwx hla.wt9 (by omega))
  have HTT := Lib.hid (fun c h => applied_tot (m := a) (c := c) (x := x) BX.out h)
  have LX := Lib.hid (fun A c W h => Line_any A c x W h (by omega) BX.out)
  clear hma hla hx ha0 hnx hvx hwx hss hfq
  generalize crossM x x = px at *
  generalize hxl : x.length = xl at *
  have HXL := Lib.hid hxl
  clear hxl
  go_enter Try.func7, Try.ntmps7
  go_upto_region 1 with fail
  have R1 : Hid (Blk (w.alloc (.cells #[.int .i64 r1.start, .slice A r1.nodes.length c] 24)) (w.heap.size) #[.int .i64 r1.start, .slice A r1.nodes.length c] 24) := Lib.hid (Blk.new' (by simp))
  have b0 : Below w.heap.size w (w.alloc (.cells #[.int .i64 r1.start, .slice A r1.nodes.length c] 24)) := (by repeat' (first | exact Below.refl _ _ | assumption | refine Below.drew ?_ | refine Below.alloc ?_ (by first | omega | (simp; done) | (simp; omega)) _ | refine Below.setCell ?_ (by first | omega | (simp; done) | (simp; omega)) _))
  generalize (w.alloc (.cells #[.int .i64 r1.start, .slice A r1.nodes.length c] 24)) = w0 at *
  have k_R1 := R1.out.cell; have l_R1 := R1.out.lt
  go_wp2_with fail
  clear k_R1 l_R1
  refine (HM1.out _ b0).mono ?_; rintro e w1 ⟨mv1, rfl, o1, q1⟩
  have b1 : Below w.heap.size w w1 := b0.trans (q1.mono b0.size)
  replace R1 := Lib.hid (R1.out.step q1)
  obtain ⟨A3, c3, rfl, s1⟩ := own_open o1
  have X1 := Lib.hid (MBox.new (c := c3) s1)
  clear o1 s1
  go_upto_region 2 with fail
  have b1a := b1.alloc b1.size (.cells #[.int .i64 a.start, .slice A3 a.states.length c3] 28)
  generalize w1.alloc (.cells #[.int .i64 a.start, .slice A3 a.states.length c3] 28) = w1a at *
  generalize w1.heap.size = ba at *
  go_wp2_with fail
  refine (HWX.out _ b1a).mono ?_; rintro e w2 ⟨AX, cX, rfl, rx, hcx, q2⟩
  have b2 : Below w.heap.size w w2 := b1a.trans (q2.mono b1a.size)
  replace X1 := Lib.hid (X1.out.step q2)
  have RX := Lib.hid rx
  obtain ⟨hcx1, hcx2⟩ := hcx
  clear rx
  go_wp2_with fail
  refine (LX.out AX cX _ RX.out).mono ?_; rintro e w3 ⟨mvx, rfl, ox, q3⟩
  have b3 : Below w.heap.size w w3 := b2.trans (q3.mono b2.size)
  replace X1 := Lib.hid (X1.out.step q3)
  replace RX := Lib.hid (RX.out.below q3 rfl)
  obtain ⟨A4, c4, rfl, sx⟩ := own_open ox
  have X2 := Lib.hid (MBox.new (c := c4) sx)
  clear ox sx
  go_upto_region 4 with fail
  replace X1 := Lib.hid (X1.out.alloc (.cells #[.int .i64 px.start, .slice A4 px.states.length c4] 28))
  replace RX := Lib.hid (RX.out.below (show Below w3.heap.size w3 (w3.alloc (.cells #[.int .i64 px.start, .slice A4 px.states.length c4] 28)) from (Below.refl _ _).alloc (Nat.le_refl _) _) rfl)
  have b3a := b3.alloc b3.size (.cells #[.int .i64 px.start, .slice A4 px.states.length c4] 28)
  generalize w3.alloc (.cells #[.int .i64 px.start, .slice A4 px.states.length c4] 28) = w3a at *
  generalize w3.heap.size = b4x at *
  have k_X2 := X2.out.blk.cell; have l_X2 := X2.out.blk.lt
  have k_X1 := X1.out.blk.cell; have l_X1 := X1.out.blk.lt
  go_wp2_with fail
  clear k_X2 l_X2 k_X1 l_X1
  refine (HC1.out _ _ _ X2.out.mach X1.out.mach).mono ?_; rintro e w4 ⟨⟨C1, kk1, m1, er1, rfl, hco⟩, q4⟩
  have b4 : Below w.heap.size w w4 := b3a.trans (q4.mono b3a.size)
  replace X1 := Lib.hid (X1.out.step q4)
  replace RX := Lib.hid (RX.out.below q4 rfl)
  replace X2 := Lib.hid (X2.out.step q4)
  have Y1 := Lib.hid (Blk.new w4 #[.int .i64 0, .slice C1 m1 kk1] 28)
  have E1 := Lib.hid (hco.alloc (.cells #[.int .i64 0, .slice C1 m1 kk1] 28))
  clear hco
  go_upto_region 5 with fail
  replace X1 := Lib.hid (X1.out.alloc (.cells #[.int .i64 0, .slice C1 m1 kk1] 28))
  replace RX := Lib.hid (RX.out.below (show Below w4.heap.size w4 (w4.alloc (.cells #[.int .i64 0, .slice C1 m1 kk1] 28)) from (Below.refl _ _).alloc (Nat.le_refl _) _) rfl)
  replace X2 := Lib.hid (X2.out.alloc (.cells #[.int .i64 0, .slice C1 m1 kk1] 28))
  have b4a := b4.alloc b4.size (.cells #[.int .i64 0, .slice C1 m1 kk1] 28)
  generalize w4.alloc (.cells #[.int .i64 0, .slice C1 m1 kk1] 28) = w4a at *
  generalize w4.heap.size = y1 at *
  rcases E1.out.full with ⟨rfl, rfl, rfl, rfl, -⟩ | ⟨rfl, f1, hf1⟩
  · go_wp2_with fail
    go_ret
    exact ⟨rfl, b4a⟩
  have H1 := Lib.hid hf1
  clear hf1 E1
  have HTO := Lib.hid (HTT.out f1 H1.out.tot)
  have HBE := Lib.hid (fun W h => Best_use (.agg #[.int .i64 0, .slice C1 m1 kk1]) f1 W h H1.out.v (wt_small H1.out.w (by omega)) H1.out.st)
  have k_Y1 := Y1.out.cell; have l_Y1 := Y1.out.lt
  go_wp2_with fail
  clear k_Y1 l_Y1
  refine (HBE.out _ H1.out.mach).mono ?_; rintro e w5 ⟨D, AP, np, kp, ger, rfl, hBU, q5⟩
  have b5 : Below w.heap.size w w5 := b4a.trans (q5.mono b4a.size)
  replace X1 := Lib.hid (X1.out.step q5)
  replace RX := Lib.hid (RX.out.below q5 rfl)
  replace Y1 := Lib.hid (Y1.out.step q5)
  replace H1 := Lib.hid (H1.out.step q5)
  have HBU := Lib.hid hBU
  clear hBU HBE
  go_upto_region 8 with fail
  have PB := Lib.hid (Blk.new w5 #[.int .i64 D, .slice AP np kp] 54)
  replace X1 := Lib.hid (X1.out.alloc (.cells #[.int .i64 D, .slice AP np kp] 54))
  replace RX := Lib.hid (RX.out.below (show Below w5.heap.size w5 (w5.alloc (.cells #[.int .i64 D, .slice AP np kp] 54)) from (Below.refl _ _).alloc (Nat.le_refl _) _) rfl)
  replace H1 := Lib.hid (H1.out.alloc (.cells #[.int .i64 D, .slice AP np kp] 54))
  have b5a := b5.alloc b5.size (.cells #[.int .i64 D, .slice AP np kp] 54)
  generalize w5.alloc (.cells #[.int .i64 D, .slice AP np kp] 54) = w5a at *
  generalize w5.heap.size = pb at *
  have BG := Lib.hid (Begin_use A3 c3 a w5a 9 4 X1.out.at_ HVA.out HS.out HA0.out)
  have k_X1 := X1.out.blk.cell; have l_X1 := X1.out.blk.lt
  go_wp2_with fail
  clear k_X1 l_X1
  refine (BG.out).mono ?_; rintro e w6 ⟨Ar, kr, cr, rfl, hF, -, q6⟩
  have b6 : Below w.heap.size w w6 := b5a.trans (q6.mono b5a.size)
  replace X1 := Lib.hid (X1.out.step q6)
  replace RX := Lib.hid (RX.out.below q6 rfl)
  replace H1 := Lib.hid (H1.out.step q6)
  replace PB := Lib.hid (PB.out.step q6)
  clear BG
  have X6 := Lib.hid X1.out; have RX6 := Lib.hid RX.out; have H6 := Lib.hid H1.out; have PB6 := Lib.hid PB.out; have B6 := Lib.hid b6
  go_upto_region 9 with fail
  have RB := Lib.hid (Blk.new w6 #[.int .i64 0, .slice Ar kr cr] 34)
  have HF := Lib.hid (fed_below hF (show Below w6.heap.size w6 (w6.alloc (.cells #[.int .i64 0, .slice Ar kr cr] 34)) from (Below.refl _ _).alloc (Nat.le_refl _) _))
  have BA := Lib.hid (show Below w6.heap.size w6 (w6.alloc (.cells #[.int .i64 0, .slice Ar kr cr] 34)) from (Below.refl _ _).alloc (Nat.le_refl _) _)
  have hgb : w6.heap.size < (w6.alloc (.cells #[.int .i64 0, .slice Ar kr cr] 34)).heap.size := by simp
  replace X1 := Lib.hid (X1.out.alloc (.cells #[.int .i64 0, .slice Ar kr cr] 34))
  replace RX := Lib.hid (RX.out.below (show Below w6.heap.size w6 (w6.alloc (.cells #[.int .i64 0, .slice Ar kr cr] 34)) from (Below.refl _ _).alloc (Nat.le_refl _) _) rfl)
  replace H1 := Lib.hid (H1.out.alloc (.cells #[.int .i64 0, .slice Ar kr cr] 34))
  replace PB := Lib.hid (PB.out.step (show Below w6.heap.size w6 (w6.alloc (.cells #[.int .i64 0, .slice Ar kr cr] 34)) from (Below.refl _ _).alloc (Nat.le_refl _) _))
  generalize w6.alloc (.cells #[.int .i64 0, .slice Ar kr cr] 34) = w7 at *
  clear hF
  have hpk0 := pick_lo cu ((xl : Int) + 1) (by omega); have hpk1 := pick_hi cu ((xl : Int) + 1) (by omega)
  have PK := Lib.hid (Picked_any cu ((xl : Int) + 1) w7 hcu1 hcu2 (by omega) (by omega))
  obtain ⟨k, hk⟩ : ∃ k : Nat, pick cu ((xl : Int) + 1) = (k : Int) := ⟨(pick cu ((xl : Int) + 1)).toNat, by omega⟩
  rw [hk] at PK hpk1
  have hkx : k ≤ xl := by omega
  clear hpk0 hpk1 hk
  go_wp2_with fail
  refine PK.out.mono ?_; rintro e w_ ⟨rfl, rfl⟩
  clear PK
  have s1 := slice_hi AX xl cX k hkx hcx1
  have s2 := slice_lo AX xl cX k hkx
  have t1 : Hid (∀ W, Rd W AX xl 1 (icells x) → Rd W AX k 1 (icells (x.take k))) := Lib.hid fun W h => rd_take (by rw [HXL.out]; exact h) k (by rw [HXL.out]; exact hkx)
  have t2 : Hid (∀ W, Rd W AX xl 1 (icells x) → Rd W (loAddr AX cX k) (xl - k) 1 (icells (x.drop k))) := Lib.hid fun W h => by
    have := rd_drop (w := W) (A := AX) (x := x) (by rw [HXL.out]; exact h) cX k (by rw [HXL.out]; exact hcx1) (by rw [HXL.out]; exact hkx)
    rwa [HXL.out] at this
  have BX1 : Hid (GoodW (x.take k)) := Lib.hid fun a ha => BX.out a (List.mem_of_mem_take ha)
  have BX2 : Hid (GoodW (x.drop k)) := Lib.hid fun a ha => BX.out a (List.mem_of_mem_drop ha)
  go_upto_region 10 with fail
  have q0 := X1.out.blk.cell 0; have q1 := X1.out.blk.cell 1; have q2 := RB.out.cell 0; have q3 := RB.out.cell 1
  have e1 := X1.out.blk.lt; have e2 := RB.out.lt
  simp only [List.getElem?_toArray, List.getElem?_cons_succ, List.getElem?_cons_zero] at q0 q1 q2 q3
  have FD := Lib.hid (fun W (hb : Below w7.heap.size w7 W) => Feed_use A3 c3 _ a W 9 4 [] (x.take k) AX k k (k : Int) (X1.out.at_.below hb (Nat.le_refl _)) HVA.out HS.out (fed_below HF.out hb) ((t1.out _ RX.out).below hb rfl) BX1.out (by simp only [List.length_nil]; omega) (by simp))
  rw [List.nil_append] at FD
  go_cut [18] (fun ev wx => ∃ A' k' c', ev = .int .i64 0 ∧ Blk wx w6.heap.size #[.int .i64 (k : Int), .slice A' k' c'] 34 ∧ FedO a 9 (x.take k) wx (.agg #[.int .i64 (k : Int), .slice A' k' c']) ∧ Below w6.heap.size w6 wx)
  case first =>
    go_region_law (first
      | (go_simp; refine (FD.out _ (Below.refl _ _).drew).mono ?_; rintro e wn ⟨An, kn, cn, rfl, hFn, bn⟩; have RBn := Lib.hid (RB.out.step ((Below.refl _ _).drew.trans bn)); have n0 := RBn.out.cell; have n1 := RBn.out.froz; have n2 := RBn.out.lt))
    all_goals
      go_wp2_with fail
      go_meet
      case rel =>
        exact ⟨An, kn, cn, rfl, ((RBn.out.put 0 _).put 1 _).eq (by simp), ((hFn.set (a := ⟨w6.heap.size, 0, none⟩) hgb _).set (a := ⟨w6.heap.size, 1, none⟩) hgb _).o, ((BA.out.trans (((Below.refl _ _).drew.trans bn).mono BA.out.size)).setCell (p := ⟨w6.heap.size, 0, none⟩) (Nat.le_refl _) _).setCell (p := ⟨w6.heap.size, 1, none⟩) (Nat.le_refl _) _⟩
  case rest =>
    obtain ⟨Ab, kb, cb, rfl, hRB, hFB, hb8⟩ := hcut
    obtain ⟨w8, rfl⟩ : ∃ wx : World, wx = wc := ⟨_, rfl⟩
    have X8 := Lib.hid (X6.out.step hb8); have RX8 := Lib.hid (RX6.out.below hb8 rfl)
    have RB8 := Lib.hid hRB; have HF8 := Lib.hid hFB; have BA8 := Lib.hid hb8
    clear q0 q1 q2 q3 e1 e2 FD hRB hFB X1 RX RB HF BA hgb hb8
    have hgb := RB8.out.lt
    have q0 := X8.out.blk.cell 0; have q1 := X8.out.blk.cell 1; have q2 := RB8.out.cell 0; have q3 := RB8.out.cell 1
    have e1 := X8.out.blk.lt; have e2 := RB8.out.lt
    simp only [List.getElem?_toArray, List.getElem?_cons_succ, List.getElem?_cons_zero] at q0 q1 q2 q3
    have FD := Lib.hid (fun W (hb : Below w8.heap.size w8 W) => Feed_use A3 c3 _ a W 9 4 (x.take k) (x.drop k) (loAddr AX cX k) (xl - k) (cX - k) (xl : Int) (X8.out.at_.below hb (Nat.le_refl _)) HVA.out HS.out (fed_below HF8.out hb) ((t2.out _ RX8.out).below hb rfl) BX2.out (by have := HXL.out; rw [List.length_take]; omega) (by have := HXL.out; rw [List.length_take]; omega))
    rw [List.take_append_drop] at FD
    go_upto_region 11 with fail
    go_cut [19] (fun ev wx => ∃ A' k' c', ev = .int .i64 0 ∧ Blk wx w6.heap.size #[.int .i64 (xl : Int), .slice A' k' c'] 34 ∧ FedO a 9 x wx (.agg #[.int .i64 (xl : Int), .slice A' k' c']) ∧ Below w6.heap.size w6 wx)
    case first =>
      go_region_law (first
        | (go_simp; refine (FD.out _ (Below.refl _ _).drew).mono ?_; rintro e wn ⟨An, kn, cn, rfl, hFn, bn⟩; have RBn := Lib.hid (RB8.out.step ((Below.refl _ _).drew.trans bn)); have n0 := RBn.out.cell; have n1 := RBn.out.froz; have n2 := RBn.out.lt))
      all_goals
        go_wp2_with fail
        go_meet
        case rel =>
          exact ⟨An, kn, cn, rfl, ((RBn.out.put 0 _).put 1 _).eq (by simp), ((hFn.set (a := ⟨w6.heap.size, 0, none⟩) hgb _).set (a := ⟨w6.heap.size, 1, none⟩) hgb _).o, ((BA8.out.trans (((Below.refl _ _).drew.trans bn).mono BA8.out.size)).setCell (p := ⟨w6.heap.size, 0, none⟩) (Nat.le_refl _) _).setCell (p := ⟨w6.heap.size, 1, none⟩) (Nat.le_refl _) _⟩
    case rest =>
      obtain ⟨Ad, kd, cd, rfl, hRB, hFB, hb9⟩ := hcut
      obtain ⟨w9, rfl⟩ : ∃ wx : World, wx = wc := ⟨_, rfl⟩
      have X9 := Lib.hid (X6.out.step hb9); have RB9 := Lib.hid hRB; have PB9 := Lib.hid (PB6.out.step hb9)
      have B9 := Lib.hid (B6.out.trans (hb9.mono B6.out.size))
      have EN := Lib.hid (End_use A3 c3 _ a w9 9 9 4 x X9.out.at_ HVA.out HS.out hFB (by rw [HXL.out]; omega) (by omega) HFQ.out (by omega))
      clear q0 q1 q2 q3 e1 e2 FD hRB hFB X8 RX8 RB8 HF8 BA8 hgb hb9
      have q0 := X9.out.blk.cell 0; have q1 := X9.out.blk.cell 1; have q2 := RB9.out.cell 0; have q3 := RB9.out.cell 1
      have e1 := X9.out.blk.lt; have e2 := RB9.out.lt
      simp only [List.getElem?_toArray, List.getElem?_cons_succ, List.getElem?_cons_zero] at q0 q1 q2 q3
      go_wp2_with fail
      refine EN.out.mono ?_; rintro e w10 ⟨hE, b10⟩
      have B10 := Lib.hid (B9.out.trans (b10.mono B9.out.size))
      have RB10 := RB9.out.step b10; have PB10 := PB9.out.step b10
      clear q0 q1 q2 q3 e1 e2 EN b10
      have q2 := RB10.cell 0; have q3 := RB10.cell 1; have e2 := RB10.lt
      have p0 := PB10.cell 0; have p2 := PB10.lt
      simp only [List.getElem?_toArray, List.getElem?_cons_succ, List.getElem?_cons_zero] at q2 q3 p0
      clear RB10 PB10
      rcases hE with ⟨rfl, hno⟩ | ⟨⟨kc, ko⟩, Az, cz, rfl, -, htz, -, -, hmin⟩
      · have hg := applied_none H6.out.v H6.out.st HTO.out HBU.out hno
        subst hg
        clear hno
        go_wp2_with fail
        go_ret
        exact ⟨rfl, B10.out⟩
      · obtain ⟨hg, hk⟩ := applied_eq H6.out.v H6.out.st HTO.out HBU.out htz hmin
        simp only at hk
        subst hg; subst hk
        clear htz hmin
        generalize ko.length = nk at *
        go_wp2_with fail
        go_ret
        exact ⟨rfl, B10.out⟩
end topApplied
end Go.Proofs.Ytikkmoleneioeaa
