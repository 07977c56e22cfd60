/- The walk of ComposeGroups. -/
import Derived.Test.YtfikkpgigicepaaCompUse
namespace Go.Proofs.Ytfikkpgigicepaa
open Go.RowKit

theorem groups_eq {a b c ab bc : MachL} (h1 : ∀ x z d, Tot ab x z false d ↔ Comp a b x z d) (h2 : ∀ x z d, Tot bc x z false d ↔ Comp b c x z d) (x z : List Int) (d : Int) : Comp ab c x z d ↔ Comp a bc x z d := by
  constructor
  · rintro ⟨y, d1, d2, g1, g2, rfl⟩
    obtain ⟨u, e1, e2, k1, k2, rfl⟩ := (h1 x y d1).1 g1
    exact ⟨u, e1, e2 + d2, k1, (h2 u z _).2 ⟨y, e2, d2, k2, g2, rfl⟩, by omega⟩
  · rintro ⟨y, d1, d2, g1, g2, rfl⟩
    obtain ⟨u, e1, e2, k1, k2, rfl⟩ := (h2 y z d2).1 g2
    exact ⟨u, d1 + e1, e2, (h1 x u _).2 ⟨y, d1, e1, g1, k1, rfl⟩, k2, by omega⟩
theorem made_two (r : RawL) : (mkMach r 2 false).states.length ≤ 2 ∧ ∀ q, (arcsQ (mkMach r 2 false) q).length ≤ 4 := by
  refine ⟨by have := made_size4 r 2 (by omega); simpa using this, fun q => ?_⟩
  unfold arcsQ
  cases hs : (mkMach r 2 false).states[q]? with
  | none => simp
  | some s => exact mk_arcs_small r 2 false s (List.mem_of_getElem? hs)
namespace composeGroups
set_option maxRecDepth 100000 in
set_option maxHeartbeats 8000000 in
theorem walk {w : World} (v1 : Value) (r1 : RawL) (hr1 : RawArg w v1 r1) (v2 : Value) (r2 : RawL) (hr2 : RawArg w v2 r2) (v3 : Value) (r3 : RawL) (hr3 : RawArg w v3 r3) (A1 : Option Addr) (n1 k1 : Nat) (xs : List Int) (hx : IntArg w A1 n1 xs) (A2 : Option Addr) (n2 k2 : Nat) (ys : List Int) (hy : IntArg w A2 n2 ys) :
    Calls Try.prog 6 #[v1, v2, v3, .slice A1 n1 k1, .slice A2 n2 k2] w fun e w' => e = .returned (.bool true) ∧ Below w.heap.size w w' := by
  have hma : Valid (mkMach r1 2 false) := valid_made r1 2 false (by omega) (by omega)
  have hmb : Valid (mkMach r2 2 false) := valid_made r2 2 false (by omega) (by omega)
  have hmd : Valid (mkMach r3 2 false) := valid_made r3 2 false (by omega) (by omega)
  have hla := (made_little r1 2 false (by omega)).wt9
  have hlb := (made_little r2 2 false (by omega)).wt9
  have hld := (made_little r3 2 false (by omega)).wt9
  have hta := made_two r1; have htb := made_two r2; have htd := made_two r3
  have ha0 : 0 ≤ (mkMach r1 2 false).start := pick_lo _ _ (by unfold mkN; omega)
  have hb0 : 0 ≤ (mkMach r2 2 false).start := pick_lo _ _ (by unfold mkN; omega)
  have hd0 : 0 ≤ (mkMach r3 2 false).start := pick_lo _ _ (by unfold mkN; omega)
  have HM1 := Lib.hid (fun W hb => made_any v1 r1 2 false W (hr1.below hb) (by omega) (by omega))
  have HM2 := Lib.hid (fun W hb => made_any v2 r2 2 false W (hr2.below hb) (by omega) (by omega))
  have HM3 := Lib.hid (fun W hb => made_any v3 r3 2 false W (hr3.below hb) (by omega) (by omega))
  have HWX := Lib.hid (fun W hb => word_any A1 n1 k1 xs 3 W (hx.below hb) (by omega))
  have HWY := Lib.hid (fun W hb => word_any A2 n2 k2 ys 3 W (hy.below hb) (by omega))
  have lx := mkWord_len xs 3; have ly := mkWord_len ys 3
  have BX := Lib.hid (word_b xs 3); have BY := Lib.hid (word_b ys 3)
  obtain ⟨-, -, A, c, rfl, -⟩ := hr1
  obtain ⟨-, -, B, d, rfl, -⟩ := hr2
  obtain ⟨-, -, C, f, rfl, -⟩ := hr3
  generalize mkMach r1 2 false = a at *
  generalize mkMach r2 2 false = b at *
  generalize mkMach r3 2 false = e at *
  generalize mkWord xs 3 = x at *
  generalize mkWord ys 3 = y at *
  have HNF1 := Lib.hid (not_full hta.1 htb.1 hta.2 htb.2); have HNF2 := Lib.hid (not_full htb.1 htd.1 htb.2 htd.2)
  have HC1 := Lib.hid (fun va vb W h1 h2 => compose_use va vb a b 9 9 W h1 h2 hma hmb ha0 hb0 hla hlb (by omega))
  have HC2 := Lib.hid (fun va vb W h1 h2 => compose_use va vb b e 9 9 W h1 h2 hmb hmd hb0 hd0 hlb hld (by omega))
  have HC3 := Lib.hid (fun va vb W m (hv : Valid m) (h0 : 0 ≤ m.start) (hw : Wt m (9 + 9)) h1 h2 => compose_use va vb m e (9 + 9) 9 W h1 h2 hv hmd h0 hd0 hw hld (by omega))
  have HC4 := Lib.hid (fun va vb W m (hv : Valid m) (h0 : 0 ≤ m.start) (hw : Wt m (9 + 9)) h1 h2 => compose_use va vb a m 9 (9 + 9) W h1 h2 hma hv ha0 h0 hla hw (by omega))
  clear hma hmb hmd hla hlb hld hx hy ha0 hb0 hd0 hta htb htd
  go_enter Try.func6, Try.ntmps6
  go_upto_region 1 with fail
  have R1 : Hid (Blk (((w.alloc (.cells #[.int .i64 r1.start, .slice A r1.nodes.length c] 24)).alloc (.cells #[.int .i64 r2.start, .slice B r2.nodes.length d] 24)).alloc (.cells #[.int .i64 r3.start, .slice C r3.nodes.length f] 24)) (w.heap.size) #[.int .i64 r1.start, .slice A r1.nodes.length c] 24) := Lib.hid (((Blk.new' (by simp)).alloc _).alloc _)
  have R2 : Hid (Blk (((w.alloc (.cells #[.int .i64 r1.start, .slice A r1.nodes.length c] 24)).alloc (.cells #[.int .i64 r2.start, .slice B r2.nodes.length d] 24)).alloc (.cells #[.int .i64 r3.start, .slice C r3.nodes.length f] 24)) (w.heap.size + 1) #[.int .i64 r2.start, .slice B r2.nodes.length d] 24) := Lib.hid ((Blk.new' (by simp)).alloc _)
  have R3 : Hid (Blk (((w.alloc (.cells #[.int .i64 r1.start, .slice A r1.nodes.length c] 24)).alloc (.cells #[.int .i64 r2.start, .slice B r2.nodes.length d] 24)).alloc (.cells #[.int .i64 r3.start, .slice C r3.nodes.length f] 24)) (w.heap.size + 1 + 1) #[.int .i64 r3.start, .slice C r3.nodes.length f] 24) := Lib.hid (Blk.new' (by simp))
  have b0 : Below w.heap.size w (((w.alloc (.cells #[.int .i64 r1.start, .slice A r1.nodes.length c] 24)).alloc (.cells #[.int .i64 r2.start, .slice B r2.nodes.length d] 24)).alloc (.cells #[.int .i64 r3.start, .slice C r3.nodes.length f] 24)) := (by repeat' (first | exact Below.refl _ _ | assumption | refine Below.drew ?_ | refine Below.alloc ?_ (by first | omega | (simp; done) | (simp; omega)) _ | refine Below.setCell ?_ (by first | omega | (simp; done) | (simp; omega)) _))
  generalize (((w.alloc (.cells #[.int .i64 r1.start, .slice A r1.nodes.length c] 24)).alloc (.cells #[.int .i64 r2.start, .slice B r2.nodes.length d] 24)).alloc (.cells #[.int .i64 r3.start, .slice C r3.nodes.length f] 24)) = w0 at *
  have k_R1 := R1.out.cell; have l_R1 := R1.out.lt
  go_wp2_with fail
  clear k_R1 l_R1
  refine (HM1.out _ b0).mono ?_; rintro e w1 ⟨mv1, rfl, o1, q1⟩
  have b1 : Below w.heap.size w w1 := b0.trans (q1.mono b0.size)
  replace R1 := Lib.hid (R1.out.step q1)
  replace R2 := Lib.hid (R2.out.step q1)
  replace R3 := Lib.hid (R3.out.step q1)
  obtain ⟨A3, c3, rfl, s1⟩ := own_open o1
  have X1 := Lib.hid (MBox.new (c := c3) s1)
  clear o1 s1
  go_upto_region 2 with fail
  replace R2 := Lib.hid (R2.out.alloc (.cells #[.int .i64 a.start, .slice A3 a.states.length c3] 28))
  replace R3 := Lib.hid (R3.out.alloc (.cells #[.int .i64 a.start, .slice A3 a.states.length c3] 28))
  have b1a := b1.alloc b1.size (.cells #[.int .i64 a.start, .slice A3 a.states.length c3] 28)
  generalize w1.alloc (.cells #[.int .i64 a.start, .slice A3 a.states.length c3] 28) = w1a at *
  generalize w1.heap.size = ba at *
  have k_R2 := R2.out.cell; have l_R2 := R2.out.lt
  go_wp2_with fail
  clear k_R2 l_R2
  refine (HM2.out _ b1a).mono ?_; rintro e w2 ⟨mv2, rfl, o2, q2⟩
  have b2 : Below w.heap.size w w2 := b1a.trans (q2.mono b1a.size)
  replace R2 := Lib.hid (R2.out.step q2)
  replace R3 := Lib.hid (R3.out.step q2)
  replace X1 := Lib.hid (X1.out.step q2)
  obtain ⟨A4, c4, rfl, s2⟩ := own_open o2
  have X2 := Lib.hid (MBox.new (c := c4) s2)
  clear o2 s2
  go_upto_region 3 with fail
  replace R3 := Lib.hid (R3.out.alloc (.cells #[.int .i64 b.start, .slice A4 b.states.length c4] 28))
  replace X1 := Lib.hid (X1.out.alloc (.cells #[.int .i64 b.start, .slice A4 b.states.length c4] 28))
  have b2a := b2.alloc b2.size (.cells #[.int .i64 b.start, .slice A4 b.states.length c4] 28)
  generalize w2.alloc (.cells #[.int .i64 b.start, .slice A4 b.states.length c4] 28) = w2a at *
  generalize w2.heap.size = bb at *
  have k_R3 := R3.out.cell; have l_R3 := R3.out.lt
  go_wp2_with fail
  clear k_R3 l_R3
  refine (HM3.out _ b2a).mono ?_; rintro e w3 ⟨mv3, rfl, o3, q3⟩
  have b3 : Below w.heap.size w w3 := b2a.trans (q3.mono b2a.size)
  replace R3 := Lib.hid (R3.out.step q3)
  replace X1 := Lib.hid (X1.out.step q3)
  replace X2 := Lib.hid (X2.out.step q3)
  obtain ⟨A5, c5, rfl, s3⟩ := own_open o3
  have X3 := Lib.hid (MBox.new (c := c5) s3)
  clear o3 s3
  go_upto_region 4 with fail
  replace X1 := Lib.hid (X1.out.alloc (.cells #[.int .i64 e.start, .slice A5 e.states.length c5] 28))
  replace X2 := Lib.hid (X2.out.alloc (.cells #[.int .i64 e.start, .slice A5 e.states.length c5] 28))
  have b3a := b3.alloc b3.size (.cells #[.int .i64 e.start, .slice A5 e.states.length c5] 28)
  generalize w3.alloc (.cells #[.int .i64 e.start, .slice A5 e.states.length c5] 28) = w3a at *
  generalize w3.heap.size = be at *
  have k_X1 := X1.out.blk.cell; have l_X1 := X1.out.blk.lt
  have k_X2 := X2.out.blk.cell; have l_X2 := X2.out.blk.lt
  go_wp2_with fail
  clear k_X1 l_X1 k_X2 l_X2
  refine (HC1.out _ _ _ X1.out.mach X2.out.mach).mono ?_; rintro e w4 ⟨⟨C1, kk1, m1, er1, rfl, hco⟩, q4⟩
  have b4 : Below w.heap.size w w4 := b3a.trans (q4.mono b3a.size)
  replace X1 := Lib.hid (X1.out.step q4)
  replace X2 := Lib.hid (X2.out.step q4)
  replace X3 := Lib.hid (X3.out.step q4)
  have Y1 := Lib.hid (Blk.new w4 #[.int .i64 0, .slice C1 m1 kk1] 28)
  have E1 := Lib.hid (hco.alloc (.cells #[.int .i64 0, .slice C1 m1 kk1] 28))
  clear hco
  go_upto_region 5 with fail
  replace X1 := Lib.hid (X1.out.alloc (.cells #[.int .i64 0, .slice C1 m1 kk1] 28))
  replace X2 := Lib.hid (X2.out.alloc (.cells #[.int .i64 0, .slice C1 m1 kk1] 28))
  replace X3 := Lib.hid (X3.out.alloc (.cells #[.int .i64 0, .slice C1 m1 kk1] 28))
  have b4a := b4.alloc b4.size (.cells #[.int .i64 0, .slice C1 m1 kk1] 28)
  generalize w4.alloc (.cells #[.int .i64 0, .slice C1 m1 kk1] 28) = w4a at *
  generalize w4.heap.size = y1 at *
  have k_X2 := X2.out.blk.cell; have l_X2 := X2.out.blk.lt
  have k_X3 := X3.out.blk.cell; have l_X3 := X3.out.blk.lt
  go_wp2_with fail
  clear k_X2 l_X2 k_X3 l_X3
  refine (HC2.out _ _ _ X2.out.mach X3.out.mach).mono ?_; rintro e w5 ⟨⟨C2, kk2, m2, er2, rfl, hco⟩, q5⟩
  have b5 : Below w.heap.size w w5 := b4a.trans (q5.mono b4a.size)
  replace X1 := Lib.hid (X1.out.step q5)
  replace X2 := Lib.hid (X2.out.step q5)
  replace X3 := Lib.hid (X3.out.step q5)
  replace Y1 := Lib.hid (Y1.out.step q5)
  replace E1 := Lib.hid (E1.out.step q5)
  have Y2 := Lib.hid (Blk.new w5 #[.int .i64 0, .slice C2 m2 kk2] 28)
  have E2 := Lib.hid (hco.alloc (.cells #[.int .i64 0, .slice C2 m2 kk2] 28))
  clear hco
  go_upto_region 6 with fail
  replace X1 := Lib.hid (X1.out.alloc (.cells #[.int .i64 0, .slice C2 m2 kk2] 28))
  replace X2 := Lib.hid (X2.out.alloc (.cells #[.int .i64 0, .slice C2 m2 kk2] 28))
  replace X3 := Lib.hid (X3.out.alloc (.cells #[.int .i64 0, .slice C2 m2 kk2] 28))
  replace Y1 := Lib.hid (Y1.out.alloc (.cells #[.int .i64 0, .slice C2 m2 kk2] 28))
  replace E1 := Lib.hid (E1.out.alloc (.cells #[.int .i64 0, .slice C2 m2 kk2] 28))
  have b5a := b5.alloc b5.size (.cells #[.int .i64 0, .slice C2 m2 kk2] 28)
  generalize w5.alloc (.cells #[.int .i64 0, .slice C2 m2 kk2] 28) = w5a at *
  generalize w5.heap.size = y2 at *
  rcases E1.out.full with ⟨-, -, -, -, hf⟩ | ⟨rfl, f1, hf1⟩
  · exact (HNF1.out hf).elim
  have H1 := Lib.hid hf1
  clear hf1 E1
  have hp1 : (0 : Int) < (m1 : Int) := by have := H1.out.pos; omega
  have hq1 : ((m1 : Int) == 0) = false := beq_eq_false_iff_ne.2 (by omega)
  rcases E2.out.full with ⟨-, -, -, -, hf⟩ | ⟨rfl, f2, hf2⟩
  · exact (HNF2.out hf).elim
  have H2 := Lib.hid hf2
  clear hf2 E2
  have hp2 : (0 : Int) < (m2 : Int) := by have := H2.out.pos; omega
  have hq2 : ((m2 : Int) == 0) = false := beq_eq_false_iff_ne.2 (by omega)
  have k_Y1 := Y1.out.cell; have l_Y1 := Y1.out.lt
  have k_Y2 := Y2.out.cell; have l_Y2 := Y2.out.lt
  go_upto_region 8 with fail
  clear k_Y1 l_Y1 k_Y2 l_Y2
  have k_Y1 := Y1.out.cell; have l_Y1 := Y1.out.lt
  have k_X3 := X3.out.blk.cell; have l_X3 := X3.out.blk.lt
  go_wp2_with fail
  clear k_Y1 l_Y1 k_X3 l_X3
  refine (HC3.out _ _ _ f1 H1.out.v (by rw [H1.out.st]; exact Int.le_refl _) H1.out.w H1.out.mach X3.out.mach).mono ?_; rintro e w6 ⟨⟨C3, kk3, m3, er3, rfl, hco⟩, q6⟩
  have b6 : Below w.heap.size w w6 := b5a.trans (q6.mono b5a.size)
  replace X1 := Lib.hid (X1.out.step q6)
  replace X3 := Lib.hid (X3.out.step q6)
  replace Y1 := Lib.hid (Y1.out.step q6)
  replace Y2 := Lib.hid (Y2.out.step q6)
  replace H1 := Lib.hid (H1.out.step q6)
  replace H2 := Lib.hid (H2.out.step q6)
  have Y3 := Lib.hid (Blk.new w6 #[.int .i64 0, .slice C3 m3 kk3] 28)
  have E3 := Lib.hid (hco.alloc (.cells #[.int .i64 0, .slice C3 m3 kk3] 28))
  clear hco
  go_upto_region 9 with fail
  replace X1 := Lib.hid (X1.out.alloc (.cells #[.int .i64 0, .slice C3 m3 kk3] 28))
  replace X3 := Lib.hid (X3.out.alloc (.cells #[.int .i64 0, .slice C3 m3 kk3] 28))
  replace Y1 := Lib.hid (Y1.out.alloc (.cells #[.int .i64 0, .slice C3 m3 kk3] 28))
  replace Y2 := Lib.hid (Y2.out.alloc (.cells #[.int .i64 0, .slice C3 m3 kk3] 28))
  replace H1 := Lib.hid (H1.out.alloc (.cells #[.int .i64 0, .slice C3 m3 kk3] 28))
  replace H2 := Lib.hid (H2.out.alloc (.cells #[.int .i64 0, .slice C3 m3 kk3] 28))
  have b6a := b6.alloc b6.size (.cells #[.int .i64 0, .slice C3 m3 kk3] 28)
  generalize w6.alloc (.cells #[.int .i64 0, .slice C3 m3 kk3] 28) = w6a at *
  generalize w6.heap.size = y3 at *
  have k_Y2 := Y2.out.cell; have l_Y2 := Y2.out.lt
  have k_X1 := X1.out.blk.cell; have l_X1 := X1.out.blk.lt
  go_wp2_with fail
  clear k_Y2 l_Y2 k_X1 l_X1
  refine (HC4.out _ _ _ f2 H2.out.v (by rw [H2.out.st]; exact Int.le_refl _) H2.out.w X1.out.mach H2.out.mach).mono ?_; rintro e w7 ⟨⟨C4, kk4, m4, er4, rfl, hco⟩, q7⟩
  have b7 : Below w.heap.size w w7 := b6a.trans (q7.mono b6a.size)
  replace X1 := Lib.hid (X1.out.step q7)
  replace Y1 := Lib.hid (Y1.out.step q7)
  replace Y2 := Lib.hid (Y2.out.step q7)
  replace H1 := Lib.hid (H1.out.step q7)
  replace H2 := Lib.hid (H2.out.step q7)
  replace Y3 := Lib.hid (Y3.out.step q7)
  replace E3 := Lib.hid (E3.out.step q7)
  have Y4 := Lib.hid (Blk.new w7 #[.int .i64 0, .slice C4 m4 kk4] 28)
  have E4 := Lib.hid (hco.alloc (.cells #[.int .i64 0, .slice C4 m4 kk4] 28))
  clear hco
  go_upto_region 10 with fail
  replace X1 := Lib.hid (X1.out.alloc (.cells #[.int .i64 0, .slice C4 m4 kk4] 28))
  replace Y1 := Lib.hid (Y1.out.alloc (.cells #[.int .i64 0, .slice C4 m4 kk4] 28))
  replace Y2 := Lib.hid (Y2.out.alloc (.cells #[.int .i64 0, .slice C4 m4 kk4] 28))
  replace H1 := Lib.hid (H1.out.alloc (.cells #[.int .i64 0, .slice C4 m4 kk4] 28))
  replace H2 := Lib.hid (H2.out.alloc (.cells #[.int .i64 0, .slice C4 m4 kk4] 28))
  replace Y3 := Lib.hid (Y3.out.alloc (.cells #[.int .i64 0, .slice C4 m4 kk4] 28))
  replace E3 := Lib.hid (E3.out.alloc (.cells #[.int .i64 0, .slice C4 m4 kk4] 28))
  have b7a := b7.alloc b7.size (.cells #[.int .i64 0, .slice C4 m4 kk4] 28)
  generalize w7.alloc (.cells #[.int .i64 0, .slice C4 m4 kk4] 28) = w7a at *
  generalize w7.heap.size = y4 at *
  rcases E3.out.full with ⟨rfl, rfl, rfl, rfl, -⟩ | ⟨rfl, f3, hf3⟩
  · go_wp2_with fail
    go_ret
    exact ⟨rfl, b7a⟩
  rcases E4.out.full with ⟨rfl, rfl, rfl, rfl, -⟩ | ⟨rfl, f4, hf4⟩
  · go_wp2_with fail
    go_ret
    exact ⟨rfl, b7a⟩
  have H3 := Lib.hid hf3
  clear hf3 E3
  have H4 := Lib.hid hf4
  clear hf4 E4
  go_wp2_with fail
  refine (HWX.out _ b7a).mono ?_; rintro e w8 ⟨xv, rfl, ox, q8⟩
  have b8 : Below w.heap.size w w8 := b7a.trans (q8.mono b7a.size)
  replace Y1 := Lib.hid (Y1.out.step q8)
  replace Y2 := Lib.hid (Y2.out.step q8)
  replace H1 := Lib.hid (H1.out.step q8)
  replace H2 := Lib.hid (H2.out.step q8)
  replace Y3 := Lib.hid (Y3.out.step q8)
  replace Y4 := Lib.hid (Y4.out.step q8)
  replace H3 := Lib.hid (H3.out.step q8)
  replace H4 := Lib.hid (H4.out.step q8)
  obtain ⟨AX, cX, rfl, rx⟩ := word_open ox
  have RX := Lib.hid rx
  clear ox rx
  go_wp2_with fail
  refine (HWY.out _ b8).mono ?_; rintro e w9 ⟨xv, rfl, ox, q9⟩
  have b9 : Below w.heap.size w w9 := b8.trans (q9.mono b8.size)
  replace Y1 := Lib.hid (Y1.out.step q9)
  replace Y2 := Lib.hid (Y2.out.step q9)
  replace H1 := Lib.hid (H1.out.step q9)
  replace H2 := Lib.hid (H2.out.step q9)
  replace Y3 := Lib.hid (Y3.out.step q9)
  replace Y4 := Lib.hid (Y4.out.step q9)
  replace H3 := Lib.hid (H3.out.step q9)
  replace H4 := Lib.hid (H4.out.step q9)
  replace RX := Lib.hid (RX.out.below q9 rfl)
  obtain ⟨AY, cY, rfl, rx⟩ := word_open ox
  have RY := Lib.hid rx
  clear ox rx
  have k_Y3 := Y3.out.cell; have l_Y3 := Y3.out.lt
  go_wp2_with fail
  clear k_Y3 l_Y3
  refine (H3.out.cost AX AY cX cY x y RX.out RY.out (by omega) (by omega) BX.out BY.out).mono ?_; rintro e w10 ⟨v2, rfl, hB2, hv2, q10⟩
  have b10 : Below w.heap.size w w10 := b9.trans (q10.mono b9.size)
  replace Y1 := Lib.hid (Y1.out.step q10)
  replace Y2 := Lib.hid (Y2.out.step q10)
  replace H1 := Lib.hid (H1.out.step q10)
  replace H2 := Lib.hid (H2.out.step q10)
  replace Y3 := Lib.hid (Y3.out.step q10)
  replace Y4 := Lib.hid (Y4.out.step q10)
  replace H3 := Lib.hid (H3.out.step q10)
  replace H4 := Lib.hid (H4.out.step q10)
  replace RX := Lib.hid (RX.out.below q10 rfl)
  replace RY := Lib.hid (RY.out.below q10 rfl)
  have HB2 := Lib.hid hB2
  clear hB2
  have k_Y4 := Y4.out.cell; have l_Y4 := Y4.out.lt
  go_wp2_with fail
  clear k_Y4 l_Y4
  refine (H4.out.cost AX AY cX cY x y RX.out RY.out (by omega) (by omega) BX.out BY.out).mono ?_; rintro e w11 ⟨v3, rfl, hB3, hv3, q11⟩
  have b11 : Below w.heap.size w w11 := b10.trans (q11.mono b10.size)
  replace Y1 := Lib.hid (Y1.out.step q11)
  replace Y2 := Lib.hid (Y2.out.step q11)
  replace H1 := Lib.hid (H1.out.step q11)
  replace H2 := Lib.hid (H2.out.step q11)
  replace Y3 := Lib.hid (Y3.out.step q11)
  replace Y4 := Lib.hid (Y4.out.step q11)
  replace H3 := Lib.hid (H3.out.step q11)
  replace H4 := Lib.hid (H4.out.step q11)
  replace RX := Lib.hid (RX.out.below q11 rfl)
  replace RY := Lib.hid (RY.out.below q11 rfl)
  obtain rfl : v3 = v2 := Best.same hB3 HB2.out (fun q => (H4.out.tot x y q).trans ((groups_eq H1.out.tot H2.out.tot x y q).symm.trans (H3.out.tot x y q).symm))
  clear hB3
  go_wp2_with fail
  go_ret
  exact ⟨rfl, b11⟩
end composeGroups
end Go.Proofs.Ytfikkpgigicepaa
