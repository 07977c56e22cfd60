/- The walk of ComposeTurns. -/
import Derived.Test.YtfikkpgigicepaaCompUse
import Derived.Test.YtfikkpgigicepaaWeighInvertWalk
namespace Go.Proofs.Ytfikkpgigicepaa
open Go.RowKit

theorem turns_eq {a b : MachL} {x z : List Int} (d : Int) : Comp a b x z d ↔ Comp (eachM invA b) (eachM invA a) z x d := by
  constructor
  · rintro ⟨y, d1, d2, h1, h2, rfl⟩
    exact ⟨y, d2, d1, (inv_tot b y z d2).2 h2, (inv_tot a x y d1).2 h1, by omega⟩
  · rintro ⟨y, d1, d2, h1, h2, rfl⟩
    exact ⟨y, d2, d1, (inv_tot a x y d2).1 h2, (inv_tot b y z d1).1 h1, by omega⟩
theorem each_wt {m : MachL} {W : Int} (h : Wt m W) : Wt (eachM invA m) W := by
  refine ⟨fun s hs e he => ?_, fun s hs hf => ?_, h.p⟩
  · obtain ⟨s0, h0, rfl⟩ := List.mem_map.1 hs
    obtain ⟨e0, he0, rfl⟩ := List.mem_map.1 he
    exact h.w s0 h0 e0 he0
  · obtain ⟨s0, h0, rfl⟩ := List.mem_map.1 hs
    exact h.f s0 h0 hf
namespace composeTurns
set_option maxRecDepth 100000 in
set_option maxHeartbeats 8000000 in
theorem walk {w : World} (v1 : Value) (r1 : RawL) (hr1 : RawArg w v1 r1) (v2 : Value) (r2 : RawL) (hr2 : RawArg w v2 r2) (A1 : Option Addr) (n1 k1 : Nat) (xs : List Int) (hx : IntArg w A1 n1 xs) (A2 : Option Addr) (n2 k2 : Nat) (ys : List Int) (hy : IntArg w A2 n2 ys) :
    Calls Try.prog 7 #[v1, v2, .slice A1 n1 k1, .slice A2 n2 k2] w fun e w' => e = .returned (.bool true) ∧ Below w.heap.size w w' := by
  have hma : Valid (mkMach r1 4 false) := valid_made r1 4 false (by omega) (by omega)
  have hmb : Valid (mkMach r2 4 false) := valid_made r2 4 false (by omega) (by omega)
  have hsa := (made_little r1 4 false (by omega)).wt9
  have hsb := (made_little r2 4 false (by omega)).wt9
  have ha0 : 0 ≤ (mkMach r1 4 false).start := pick_lo _ _ (by unfold mkN; omega)
  have hb0 : 0 ≤ (mkMach r2 4 false).start := pick_lo _ _ (by unfold mkN; omega)
  have HM1 := Lib.hid (fun W hb => made_any v1 r1 4 false W (hr1.below hb) (by omega) (by omega))
  have HM2 := Lib.hid (fun W hb => made_any v2 r2 4 false W (hr2.below hb) (by omega) (by omega))
  have HWX := Lib.hid (fun W hb => word_any A1 n1 k1 xs 3 W (hx.below hb) (by omega))
  have HWY := Lib.hid (fun W hb => word_any A2 n2 k2 ys 3 W (hy.below hb) (by omega))
  have lx := mkWord_len xs 3; have ly := mkWord_len ys 3
  have BX := Lib.hid (word_b xs 3); have BY := Lib.hid (word_b ys 3)
  obtain ⟨-, -, A, c, rfl, -⟩ := hr1
  obtain ⟨-, -, B, d, rfl, -⟩ := hr2
  generalize mkMach r1 4 false = a at *
  generalize mkMach r2 4 false = b at *
  generalize mkWord xs 3 = x at *
  generalize mkWord ys 3 = y at *
  have hma' := eachM_valid inv_valid hma; have hmb' := eachM_valid inv_valid hmb
  have HC1 := Lib.hid (fun va vb W h1 h2 => compose_use va vb a b 9 9 W h1 h2 hma hmb ha0 hb0 hsa hsb (by omega))
  have HI1 := Lib.hid (fun v W h => Invert_any v a W h hma)
  have HI2 := Lib.hid (fun v W h => Invert_any v b W h hmb)
  have HC2 := Lib.hid (fun va vb W h1 h2 => compose_use va vb (eachM invA b) (eachM invA a) 9 9 W h1 h2 hmb' hma' hb0 ha0 (each_wt hsb) (each_wt hsa) (by omega))
  have HEQ := Lib.hid (fun d => turns_eq (a := a) (b := b) (x := x) (z := y) d)
  clear hma hmb hsa hsb hx hy ha0 hb0 hma' hmb'
  generalize eachM invA a = ia at *
  generalize eachM invA b = ib at *
  go_enter Try.func7, Try.ntmps7
  go_upto_region 1 with fail
  have R2 : Hid (Blk ((w.alloc (.cells #[.int .i64 r1.start, .slice A r1.nodes.length c] 24)).alloc (.cells #[.int .i64 r2.start, .slice B r2.nodes.length d] 24)) (w.heap.size + 1) #[.int .i64 r2.start, .slice B r2.nodes.length d] 24) := Lib.hid (Blk.new' (by simp))
  have R1 : Hid (Blk ((w.alloc (.cells #[.int .i64 r1.start, .slice A r1.nodes.length c] 24)).alloc (.cells #[.int .i64 r2.start, .slice B r2.nodes.length d] 24)) w.heap.size #[.int .i64 r1.start, .slice A r1.nodes.length c] 24) := Lib.hid ((Blk.new _ _ _).alloc _)
  have b0 : Below w.heap.size w ((w.alloc (.cells #[.int .i64 r1.start, .slice A r1.nodes.length c] 24)).alloc (.cells #[.int .i64 r2.start, .slice B r2.nodes.length d] 24)) := (by repeat' (first | exact Below.refl _ _ | assumption | refine Below.drew ?_ | refine Below.alloc ?_ (by first | omega | (simp; done) | (simp; omega)) _ | refine Below.setCell ?_ (by first | omega | (simp; done) | (simp; omega)) _))
  generalize (w.alloc (.cells #[.int .i64 r1.start, .slice A r1.nodes.length c] 24)).alloc (.cells #[.int .i64 r2.start, .slice B r2.nodes.length d] 24) = w0 at *
  have k_R1 := R1.out.cell; have l_R1 := R1.out.lt
  go_wp2_with fail
  clear k_R1 l_R1
  refine (HM1.out _ b0).mono ?_; rintro e w1 ⟨mv1, rfl, o1, q1⟩
  have b1 : Below w.heap.size w w1 := b0.trans (q1.mono b0.size)
  replace R1 := Lib.hid (R1.out.step q1)
  replace R2 := Lib.hid (R2.out.step q1)
  obtain ⟨A3, c3, rfl, s1⟩ := own_open o1
  have X1 := Lib.hid (MBox.new (c := c3) s1)
  clear o1 s1
  go_upto_region 2 with fail
  replace R1 := Lib.hid (R1.out.alloc (.cells #[.int .i64 a.start, .slice A3 a.states.length c3] 28))
  replace R2 := Lib.hid (R2.out.alloc (.cells #[.int .i64 a.start, .slice A3 a.states.length c3] 28))
  have b1a := b1.alloc b1.size (.cells #[.int .i64 a.start, .slice A3 a.states.length c3] 28)
  generalize w1.alloc (.cells #[.int .i64 a.start, .slice A3 a.states.length c3] 28) = w1a at *
  generalize w1.heap.size = ba at *
  have k_R2 := R2.out.cell; have l_R2 := R2.out.lt
  go_wp2_with fail
  clear k_R2 l_R2
  refine (HM2.out _ b1a).mono ?_; rintro e w2 ⟨mv2, rfl, o2, q2⟩
  have b2 : Below w.heap.size w w2 := b1a.trans (q2.mono b1a.size)
  replace R2 := Lib.hid (R2.out.step q2)
  replace X1 := Lib.hid (X1.out.step q2)
  obtain ⟨A4, c4, rfl, s2⟩ := own_open o2
  have X2 := Lib.hid (MBox.new (c := c4) s2)
  clear o2 s2
  go_upto_region 3 with fail
  replace R2 := Lib.hid (R2.out.alloc (.cells #[.int .i64 b.start, .slice A4 b.states.length c4] 28))
  replace X1 := Lib.hid (X1.out.alloc (.cells #[.int .i64 b.start, .slice A4 b.states.length c4] 28))
  have b2a := b2.alloc b2.size (.cells #[.int .i64 b.start, .slice A4 b.states.length c4] 28)
  generalize w2.alloc (.cells #[.int .i64 b.start, .slice A4 b.states.length c4] 28) = w2a at *
  generalize w2.heap.size = bb at *
  have k_X1 := X1.out.blk.cell; have l_X1 := X1.out.blk.lt
  have k_X2 := X2.out.blk.cell; have l_X2 := X2.out.blk.lt
  go_wp2_with fail
  clear k_X1 l_X1 k_X2 l_X2
  refine (HC1.out _ _ _ X1.out.mach X2.out.mach).mono ?_; rintro e w3 ⟨⟨A5, k5, n5, er, rfl, hco1⟩, q3⟩
  have b3 : Below w.heap.size w w3 := b2a.trans (q3.mono b2a.size)
  replace X1 := Lib.hid (X1.out.step q3)
  replace X2 := Lib.hid (X2.out.step q3)
  have X3 := Lib.hid (Blk.new w3 #[.int .i64 0, .slice A5 n5 k5] 28)
  have HCO1 := Lib.hid (hco1.alloc (.cells #[.int .i64 0, .slice A5 n5 k5] 28))
  clear hco1
  go_upto_region 4 with fail
  replace X1 := Lib.hid (X1.out.alloc (.cells #[.int .i64 0, .slice A5 n5 k5] 28))
  replace X2 := Lib.hid (X2.out.alloc (.cells #[.int .i64 0, .slice A5 n5 k5] 28))
  have b3a := b3.alloc b3.size (.cells #[.int .i64 0, .slice A5 n5 k5] 28)
  generalize w3.alloc (.cells #[.int .i64 0, .slice A5 n5 k5] 28) = w3a at *
  generalize w3.heap.size = bx3 at *
  have k_X1 := X1.out.blk.cell; have l_X1 := X1.out.blk.lt
  go_wp2_with fail
  clear k_X1 l_X1
  refine (HI1.out _ _ X1.out.mach).mono ?_; rintro e w4 ⟨mv4, rfl, o4, q4⟩
  have b4 : Below w.heap.size w w4 := b3a.trans (q4.mono b3a.size)
  replace X1 := Lib.hid (X1.out.step q4)
  replace X2 := Lib.hid (X2.out.step q4)
  replace X3 := Lib.hid (X3.out.step q4)
  replace HCO1 := Lib.hid (HCO1.out.step q4)
  obtain ⟨A6, c6, rfl, s4⟩ := own_open o4
  have X4 := Lib.hid (MBox.new (c := c6) s4)
  clear o4 s4
  go_upto_region 5 with fail
  replace X2 := Lib.hid (X2.out.alloc (.cells #[.int .i64 ia.start, .slice A6 ia.states.length c6] 28))
  replace X3 := Lib.hid (X3.out.alloc (.cells #[.int .i64 ia.start, .slice A6 ia.states.length c6] 28))
  replace HCO1 := Lib.hid (HCO1.out.alloc (.cells #[.int .i64 ia.start, .slice A6 ia.states.length c6] 28))
  have b4a := b4.alloc b4.size (.cells #[.int .i64 ia.start, .slice A6 ia.states.length c6] 28)
  generalize w4.alloc (.cells #[.int .i64 ia.start, .slice A6 ia.states.length c6] 28) = w4a at *
  generalize w4.heap.size = bx4 at *
  have k_X2 := X2.out.blk.cell; have l_X2 := X2.out.blk.lt
  go_wp2_with fail
  clear k_X2 l_X2
  refine (HI2.out _ _ X2.out.mach).mono ?_; rintro e w5 ⟨mv5, rfl, o5, q5⟩
  have b5 : Below w.heap.size w w5 := b4a.trans (q5.mono b4a.size)
  replace X2 := Lib.hid (X2.out.step q5)
  replace X3 := Lib.hid (X3.out.step q5)
  replace HCO1 := Lib.hid (HCO1.out.step q5)
  replace X4 := Lib.hid (X4.out.step q5)
  obtain ⟨A7, c7, rfl, s5⟩ := own_open o5
  have X5 := Lib.hid (MBox.new (c := c7) s5)
  clear o5 s5
  go_upto_region 6 with fail
  replace X3 := Lib.hid (X3.out.alloc (.cells #[.int .i64 ib.start, .slice A7 ib.states.length c7] 28))
  replace HCO1 := Lib.hid (HCO1.out.alloc (.cells #[.int .i64 ib.start, .slice A7 ib.states.length c7] 28))
  replace X4 := Lib.hid (X4.out.alloc (.cells #[.int .i64 ib.start, .slice A7 ib.states.length c7] 28))
  have b5a := b5.alloc b5.size (.cells #[.int .i64 ib.start, .slice A7 ib.states.length c7] 28)
  generalize w5.alloc (.cells #[.int .i64 ib.start, .slice A7 ib.states.length c7] 28) = w5a at *
  generalize w5.heap.size = bx5 at *
  have k_X4 := X4.out.blk.cell; have l_X4 := X4.out.blk.lt
  have k_X5 := X5.out.blk.cell; have l_X5 := X5.out.blk.lt
  go_wp2_with fail
  clear k_X4 l_X4 k_X5 l_X5
  refine (HC2.out _ _ _ X5.out.mach X4.out.mach).mono ?_; rintro e w6 ⟨⟨A8, k8, n8, er2, rfl, hco2⟩, q6⟩
  have b6 : Below w.heap.size w w6 := b5a.trans (q6.mono b5a.size)
  replace X3 := Lib.hid (X3.out.step q6)
  replace HCO1 := Lib.hid (HCO1.out.step q6)
  replace X4 := Lib.hid (X4.out.step q6)
  replace X5 := Lib.hid (X5.out.step q6)
  have X6 := Lib.hid (Blk.new w6 #[.int .i64 0, .slice A8 n8 k8] 28)
  have HCO2 := Lib.hid (hco2.alloc (.cells #[.int .i64 0, .slice A8 n8 k8] 28))
  clear hco2
  go_upto_region 7 with fail
  replace X3 := Lib.hid (X3.out.alloc (.cells #[.int .i64 0, .slice A8 n8 k8] 28))
  replace HCO1 := Lib.hid (HCO1.out.alloc (.cells #[.int .i64 0, .slice A8 n8 k8] 28))
  have b6a := b6.alloc b6.size (.cells #[.int .i64 0, .slice A8 n8 k8] 28)
  generalize w6.alloc (.cells #[.int .i64 0, .slice A8 n8 k8] 28) = w6a at *
  generalize w6.heap.size = bx6 at *
  rcases HCO1.out.full with ⟨rfl, rfl⟩ | ⟨rfl, c1, hc1⟩
  · go_wp2_with fail
    go_ret
    exact ⟨rfl, b6a⟩
  rcases HCO2.out.full with ⟨rfl, rfl⟩ | ⟨rfl, c2, hc2⟩
  · go_wp2_with fail
    go_ret
    exact ⟨rfl, b6a⟩
  have H1 := Lib.hid hc1; have H2 := Lib.hid hc2
  clear hc1 hc2 HCO1 HCO2
  go_wp2_with fail
  refine (HWX.out _ b6a).mono ?_; rintro e w7 ⟨xv, rfl, ox, q7⟩
  have b7 : Below w.heap.size w w7 := b6a.trans (q7.mono b6a.size)
  replace X3 := Lib.hid (X3.out.step q7)
  replace X6 := Lib.hid (X6.out.step q7)
  replace H1 := Lib.hid (H1.out.step q7)
  replace H2 := Lib.hid (H2.out.step q7)
  obtain ⟨AX, cX, rfl, rx⟩ := word_open ox
  have RX := Lib.hid rx
  clear ox rx
  go_wp2_with fail
  refine (HWY.out _ b7).mono ?_; rintro e w8 ⟨yv, rfl, oy, q8⟩
  have b8 : Below w.heap.size w w8 := b7.trans (q8.mono b7.size)
  replace X3 := Lib.hid (X3.out.step q8)
  replace X6 := Lib.hid (X6.out.step q8)
  replace H1 := Lib.hid (H1.out.step q8)
  replace H2 := Lib.hid (H2.out.step q8)
  replace RX := Lib.hid (RX.out.below q8 rfl)
  obtain ⟨AY, cY, rfl, ry⟩ := word_open oy
  have RY := Lib.hid ry
  clear oy ry
  have hp1 : (0 : Int) < (n5 : Int) := by have := H1.out.pos; omega
  have k_X3 := X3.out.cell; have l_X3 := X3.out.lt
  go_wp2_with fail
  clear k_X3 l_X3
  refine (H1.out.cost AX AY cX cY x y RX.out RY.out (by omega) (by omega) BX.out BY.out).mono ?_; rintro e w9 ⟨v1, rfl, hB1, hv1, q9⟩
  have b9 : Below w.heap.size w w9 := b8.trans (q9.mono b8.size)
  replace X3 := Lib.hid (X3.out.step q9)
  replace X6 := Lib.hid (X6.out.step q9)
  replace H1 := Lib.hid (H1.out.step q9)
  replace H2 := Lib.hid (H2.out.step q9)
  replace RX := Lib.hid (RX.out.below q9 rfl)
  replace RY := Lib.hid (RY.out.below q9 rfl)
  have HB1 := Lib.hid hB1
  clear hB1
  have k_X3 := X3.out.cell; have l_X3 := X3.out.lt
  have k_X6 := X6.out.cell; have l_X6 := X6.out.lt
  go_wp2_with fail
  clear k_X3 l_X3 k_X6 l_X6
  refine (H2.out.cost AY AX cY cX y x RY.out RX.out (by omega) (by omega) BY.out BX.out).mono ?_; rintro e w10 ⟨v2, rfl, hB2, hv2, q10⟩
  have b10 : Below w.heap.size w w10 := b9.trans (q10.mono b9.size)
  replace X3 := Lib.hid (X3.out.step q10)
  replace X6 := Lib.hid (X6.out.step q10)
  replace H1 := Lib.hid (H1.out.step q10)
  replace H2 := Lib.hid (H2.out.step q10)
  replace RX := Lib.hid (RX.out.below q10 rfl)
  replace RY := Lib.hid (RY.out.below q10 rfl)
  obtain rfl : v2 = v1 := Best.same hB2 HB1.out (fun d => (H2.out.tot y x d).trans ((HEQ.out d).symm.trans (H1.out.tot x y d).symm))
  clear hB2
  go_wp2_with fail
  go_ret
  exact ⟨rfl, b10⟩
end composeTurns
end Go.Proofs.Ytfikkpgigicepaa
