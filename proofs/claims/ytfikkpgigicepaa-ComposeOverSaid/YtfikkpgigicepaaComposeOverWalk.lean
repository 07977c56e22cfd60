/- The walk of ComposeOver. -/
import Derived.Test.YtfikkpgigicepaaCompUse
import Derived.Test.YtfikkpgigicepaaEmb
import Derived.Test.YtfikkpgigicepaaUnion
namespace Go.Proofs.Ytfikkpgigicepaa
open Go.RowKit

theorem over_eq {a b d : MachL} (ha : Valid a) (hb : Valid b) {x z : List Int} (e : Int) : Comp (unionM a b) d x z e ↔ Comp a d x z e ∨ Comp b d x z e := by
  constructor
  · rintro ⟨y, d1, d2, h1, h2, rfl⟩
    rcases (union_tot ha hb x y d1).1 h1 with h | h
    · exact .inl ⟨y, d1, d2, h, h2, rfl⟩
    · exact .inr ⟨y, d1, d2, h, h2, rfl⟩
  · rintro (⟨y, d1, d2, h1, h2, rfl⟩ | ⟨y, d1, d2, h1, h2, rfl⟩)
    · exact ⟨y, d1, d2, (union_tot ha hb x y d1).2 (.inl h1), h2, rfl⟩
    · exact ⟨y, d1, d2, (union_tot ha hb x y d1).2 (.inr h1), h2, rfl⟩
theorem made_szs (r : RawL) (k : Int) (k1 : 1 ≤ k) : (mkMach r k false).states.length ≤ k.toNat ∧ arcsOf (mkMach r k false).states ≤ 4 * k.toNat := by
  have h1 := mkMach_len r k false k1
  have h2 : mkN r k ≤ k ∧ 1 ≤ mkN r k := by unfold mkN; omega
  have h3 := sum_le4 _ (mk_arcs_small r k false)
  refine ⟨by omega, by omega⟩
namespace composeOver
set_option maxRecDepth 100000 in
set_option maxHeartbeats 8000000 in
theorem walk {w : World} (v1 : Value) (r1 : RawL) (hr1 : RawArg w v1 r1) (v2 : Value) (r2 : RawL) (hr2 : RawArg w v2 r2) (v3 : Value) (r3 : RawL) (hr3 : RawArg w v3 r3) (A1 : Option Addr) (n1 k1 : Nat) (xs : List Int) (hx : IntArg w A1 n1 xs) (A2 : Option Addr) (n2 k2 : Nat) (ys : List Int) (hy : IntArg w A2 n2 ys) :
    Calls Try.prog 8 #[v1, v2, v3, .slice A1 n1 k1, .slice A2 n2 k2] w fun e w' => e = .returned (.bool true) ∧ Below w.heap.size w w' := by
  have hma : Valid (mkMach r1 2 false) := valid_made r1 2 false (by omega) (by omega)
  have hmb : Valid (mkMach r2 2 false) := valid_made r2 2 false (by omega) (by omega)
  have hmd : Valid (mkMach r3 2 false) := valid_made r3 2 false (by omega) (by omega)
  have hla := made_little r1 2 false (by omega)
  have hlb := made_little r2 2 false (by omega)
  have hld := made_little r3 2 false (by omega)
  have hza := made_szs r1 2 (by omega); have hzb := made_szs r2 2 (by omega)
  have ha0 : 0 ≤ (mkMach r1 2 false).start := pick_lo _ _ (by unfold mkN; omega)
  have hb0 : 0 ≤ (mkMach r2 2 false).start := pick_lo _ _ (by unfold mkN; omega)
  have hd0 : 0 ≤ (mkMach r3 2 false).start := pick_lo _ _ (by unfold mkN; omega)
  have HM1 := Lib.hid (fun W hb => made_any v1 r1 2 false W (hr1.below hb) (by omega) (by omega))
  have HM2 := Lib.hid (fun W hb => made_any v2 r2 2 false W (hr2.below hb) (by omega) (by omega))
  have HM3 := Lib.hid (fun W hb => made_any v3 r3 2 false W (hr3.below hb) (by omega) (by omega))
  have HWX := Lib.hid (fun W hb => word_any A1 n1 k1 xs 3 W (hx.below hb) (by omega))
  have HWY := Lib.hid (fun W hb => word_any A2 n2 k2 ys 3 W (hy.below hb) (by omega))
  have lx := mkWord_len xs 3; have ly := mkWord_len ys 3
  have BX := Lib.hid (word_b xs 3); have BY := Lib.hid (word_b ys 3)
  obtain ⟨-, -, A, c, rfl, -⟩ := hr1
  obtain ⟨-, -, B, d, rfl, -⟩ := hr2
  obtain ⟨-, -, C, f, rfl, -⟩ := hr3
  generalize mkMach r1 2 false = a at *
  generalize mkMach r2 2 false = b at *
  generalize mkMach r3 2 false = e at *
  generalize mkWord xs 3 = x at *
  generalize mkWord ys 3 = y at *
  obtain ⟨hza1, hza2⟩ := hza
  obtain ⟨hzb1, hzb2⟩ := hzb
  have hza1' : a.states.length ≤ 2 := by simpa using hza1
  have hzb1' : b.states.length ≤ 2 := by simpa using hzb1
  have hza2' : arcsOf a.states ≤ 8 := by simpa using hza2
  have hzb2' : arcsOf b.states ≤ 8 := by simpa using hzb2
  have hvu := union_valid hma hmb (by omega) (by omega)
  have hu0 : 0 ≤ (unionM a b).start := Int.le_refl 0
  have hwu := (union_little hla hlb (by omega)).wt9
  have HUN := Lib.hid (fun va vb W h1 h2 => Union_any va vb a b W h1 h2 hma hmb hvu)
  have HC1 := Lib.hid (fun va vb W h1 h2 => compose_use va vb (unionM a b) e 9 9 W h1 h2 hvu hmd hu0 hd0 hwu hld.wt9 (by omega))
  have HC2 := Lib.hid (fun va vb W h1 h2 => compose_use va vb a e 9 9 W h1 h2 hma hmd ha0 hd0 hla.wt9 hld.wt9 (by omega))
  have HC3 := Lib.hid (fun va vb W h1 h2 => compose_use va vb b e 9 9 W h1 h2 hmb hmd hb0 hd0 hlb.wt9 hld.wt9 (by omega))
  have HEQ := Lib.hid (fun q => over_eq hma hmb (d := e) (x := x) (z := y) q)
  clear hma hmb hmd hla hlb hld hx hy ha0 hb0 hd0 hza1 hza2 hzb1 hzb2 hza1' hzb1' hza2' hzb2' hvu hwu hu0
  generalize unionM a b = u at *
  go_enter Try.func8, Try.ntmps8
  go_upto_region 1 with fail
  have R1 : Hid (Blk (((w.alloc (.cells #[.int .i64 r1.start, .slice A r1.nodes.length c] 24)).alloc (.cells #[.int .i64 r2.start, .slice B r2.nodes.length d] 24)).alloc (.cells #[.int .i64 r3.start, .slice C r3.nodes.length f] 24)) (w.heap.size) #[.int .i64 r1.start, .slice A r1.nodes.length c] 24) := Lib.hid (((Blk.new' (by simp)).alloc _).alloc _)
  have R2 : Hid (Blk (((w.alloc (.cells #[.int .i64 r1.start, .slice A r1.nodes.length c] 24)).alloc (.cells #[.int .i64 r2.start, .slice B r2.nodes.length d] 24)).alloc (.cells #[.int .i64 r3.start, .slice C r3.nodes.length f] 24)) (w.heap.size + 1) #[.int .i64 r2.start, .slice B r2.nodes.length d] 24) := Lib.hid ((Blk.new' (by simp)).alloc _)
  have R3 : Hid (Blk (((w.alloc (.cells #[.int .i64 r1.start, .slice A r1.nodes.length c] 24)).alloc (.cells #[.int .i64 r2.start, .slice B r2.nodes.length d] 24)).alloc (.cells #[.int .i64 r3.start, .slice C r3.nodes.length f] 24)) (w.heap.size + 1 + 1) #[.int .i64 r3.start, .slice C r3.nodes.length f] 24) := Lib.hid (Blk.new' (by simp))
  have b0 : Below w.heap.size w (((w.alloc (.cells #[.int .i64 r1.start, .slice A r1.nodes.length c] 24)).alloc (.cells #[.int .i64 r2.start, .slice B r2.nodes.length d] 24)).alloc (.cells #[.int .i64 r3.start, .slice C r3.nodes.length f] 24)) := (by repeat' (first | exact Below.refl _ _ | assumption | refine Below.drew ?_ | refine Below.alloc ?_ (by first | omega | (simp; done) | (simp; omega)) _ | refine Below.setCell ?_ (by first | omega | (simp; done) | (simp; omega)) _))
  generalize (((w.alloc (.cells #[.int .i64 r1.start, .slice A r1.nodes.length c] 24)).alloc (.cells #[.int .i64 r2.start, .slice B r2.nodes.length d] 24)).alloc (.cells #[.int .i64 r3.start, .slice C r3.nodes.length f] 24)) = w0 at *
  have k_R1 := R1.out.cell; have l_R1 := R1.out.lt
  go_wp2_with fail
  clear k_R1 l_R1
  refine (HM1.out _ b0).mono ?_; rintro e w1 ⟨mv1, rfl, o1, q1⟩
  have b1 : Below w.heap.size w w1 := b0.trans (q1.mono b0.size)
  replace R1 := Lib.hid (R1.out.step q1)
  replace R2 := Lib.hid (R2.out.step q1)
  replace R3 := Lib.hid (R3.out.step q1)
  obtain ⟨A3, c3, rfl, s1⟩ := own_open o1
  have X1 := Lib.hid (MBox.new (c := c3) s1)
  clear o1 s1
  go_upto_region 2 with fail
  replace R2 := Lib.hid (R2.out.alloc (.cells #[.int .i64 a.start, .slice A3 a.states.length c3] 28))
  replace R3 := Lib.hid (R3.out.alloc (.cells #[.int .i64 a.start, .slice A3 a.states.length c3] 28))
  have b1a := b1.alloc b1.size (.cells #[.int .i64 a.start, .slice A3 a.states.length c3] 28)
  generalize w1.alloc (.cells #[.int .i64 a.start, .slice A3 a.states.length c3] 28) = w1a at *
  generalize w1.heap.size = ba at *
  have k_R2 := R2.out.cell; have l_R2 := R2.out.lt
  go_wp2_with fail
  clear k_R2 l_R2
  refine (HM2.out _ b1a).mono ?_; rintro e w2 ⟨mv2, rfl, o2, q2⟩
  have b2 : Below w.heap.size w w2 := b1a.trans (q2.mono b1a.size)
  replace R2 := Lib.hid (R2.out.step q2)
  replace R3 := Lib.hid (R3.out.step q2)
  replace X1 := Lib.hid (X1.out.step q2)
  obtain ⟨A4, c4, rfl, s2⟩ := own_open o2
  have X2 := Lib.hid (MBox.new (c := c4) s2)
  clear o2 s2
  go_upto_region 3 with fail
  replace R3 := Lib.hid (R3.out.alloc (.cells #[.int .i64 b.start, .slice A4 b.states.length c4] 28))
  replace X1 := Lib.hid (X1.out.alloc (.cells #[.int .i64 b.start, .slice A4 b.states.length c4] 28))
  have b2a := b2.alloc b2.size (.cells #[.int .i64 b.start, .slice A4 b.states.length c4] 28)
  generalize w2.alloc (.cells #[.int .i64 b.start, .slice A4 b.states.length c4] 28) = w2a at *
  generalize w2.heap.size = bb at *
  have k_R3 := R3.out.cell; have l_R3 := R3.out.lt
  go_wp2_with fail
  clear k_R3 l_R3
  refine (HM3.out _ b2a).mono ?_; rintro e w3 ⟨mv3, rfl, o3, q3⟩
  have b3 : Below w.heap.size w w3 := b2a.trans (q3.mono b2a.size)
  replace R3 := Lib.hid (R3.out.step q3)
  replace X1 := Lib.hid (X1.out.step q3)
  replace X2 := Lib.hid (X2.out.step q3)
  obtain ⟨A5, c5, rfl, s3⟩ := own_open o3
  have X3 := Lib.hid (MBox.new (c := c5) s3)
  clear o3 s3
  go_upto_region 4 with fail
  replace X1 := Lib.hid (X1.out.alloc (.cells #[.int .i64 e.start, .slice A5 e.states.length c5] 28))
  replace X2 := Lib.hid (X2.out.alloc (.cells #[.int .i64 e.start, .slice A5 e.states.length c5] 28))
  have b3a := b3.alloc b3.size (.cells #[.int .i64 e.start, .slice A5 e.states.length c5] 28)
  generalize w3.alloc (.cells #[.int .i64 e.start, .slice A5 e.states.length c5] 28) = w3a at *
  generalize w3.heap.size = be at *
  have k_X1 := X1.out.blk.cell; have l_X1 := X1.out.blk.lt
  have k_X2 := X2.out.blk.cell; have l_X2 := X2.out.blk.lt
  go_wp2_with fail
  clear k_X1 l_X1 k_X2 l_X2
  refine (HUN.out _ _ _ X1.out.mach X2.out.mach).mono ?_; rintro e w4 ⟨mvx, rfl, ox, q4⟩
  have b4 : Below w.heap.size w w4 := b3a.trans (q4.mono b3a.size)
  replace X1 := Lib.hid (X1.out.step q4)
  replace X2 := Lib.hid (X2.out.step q4)
  replace X3 := Lib.hid (X3.out.step q4)
  obtain ⟨A6, c6, rfl, sx⟩ := own_open ox
  have XU := Lib.hid (MBox.new (c := c6) sx)
  clear ox sx
  go_upto_region 5 with fail
  replace X1 := Lib.hid (X1.out.alloc (.cells #[.int .i64 u.start, .slice A6 u.states.length c6] 28))
  replace X2 := Lib.hid (X2.out.alloc (.cells #[.int .i64 u.start, .slice A6 u.states.length c6] 28))
  replace X3 := Lib.hid (X3.out.alloc (.cells #[.int .i64 u.start, .slice A6 u.states.length c6] 28))
  have b4a := b4.alloc b4.size (.cells #[.int .i64 u.start, .slice A6 u.states.length c6] 28)
  generalize w4.alloc (.cells #[.int .i64 u.start, .slice A6 u.states.length c6] 28) = w4a at *
  generalize w4.heap.size = bu at *
  have k_XU := XU.out.blk.cell; have l_XU := XU.out.blk.lt
  have k_X3 := X3.out.blk.cell; have l_X3 := X3.out.blk.lt
  go_wp2_with fail
  clear k_XU l_XU k_X3 l_X3
  refine (HC1.out _ _ _ XU.out.mach X3.out.mach).mono ?_; rintro e w5 ⟨⟨C1, k1, m1, er1, rfl, hco⟩, q5⟩
  have b5 : Below w.heap.size w w5 := b4a.trans (q5.mono b4a.size)
  replace X1 := Lib.hid (X1.out.step q5)
  replace X2 := Lib.hid (X2.out.step q5)
  replace X3 := Lib.hid (X3.out.step q5)
  replace XU := Lib.hid (XU.out.step q5)
  have Y1 := Lib.hid (Blk.new w5 #[.int .i64 0, .slice C1 m1 k1] 28)
  have E1 := Lib.hid (hco.alloc (.cells #[.int .i64 0, .slice C1 m1 k1] 28))
  clear hco
  go_upto_region 6 with fail
  replace X1 := Lib.hid (X1.out.alloc (.cells #[.int .i64 0, .slice C1 m1 k1] 28))
  replace X2 := Lib.hid (X2.out.alloc (.cells #[.int .i64 0, .slice C1 m1 k1] 28))
  replace X3 := Lib.hid (X3.out.alloc (.cells #[.int .i64 0, .slice C1 m1 k1] 28))
  replace XU := Lib.hid (XU.out.alloc (.cells #[.int .i64 0, .slice C1 m1 k1] 28))
  have b5a := b5.alloc b5.size (.cells #[.int .i64 0, .slice C1 m1 k1] 28)
  generalize w5.alloc (.cells #[.int .i64 0, .slice C1 m1 k1] 28) = w5a at *
  generalize w5.heap.size = y1 at *
  have k_X1 := X1.out.blk.cell; have l_X1 := X1.out.blk.lt
  have k_X3 := X3.out.blk.cell; have l_X3 := X3.out.blk.lt
  go_wp2_with fail
  clear k_X1 l_X1 k_X3 l_X3
  refine (HC2.out _ _ _ X1.out.mach X3.out.mach).mono ?_; rintro e w6 ⟨⟨C2, k2, m2, er2, rfl, hco⟩, q6⟩
  have b6 : Below w.heap.size w w6 := b5a.trans (q6.mono b5a.size)
  replace X1 := Lib.hid (X1.out.step q6)
  replace X2 := Lib.hid (X2.out.step q6)
  replace X3 := Lib.hid (X3.out.step q6)
  replace Y1 := Lib.hid (Y1.out.step q6)
  replace E1 := Lib.hid (E1.out.step q6)
  have Y2 := Lib.hid (Blk.new w6 #[.int .i64 0, .slice C2 m2 k2] 28)
  have E2 := Lib.hid (hco.alloc (.cells #[.int .i64 0, .slice C2 m2 k2] 28))
  clear hco
  go_upto_region 7 with fail
  replace X1 := Lib.hid (X1.out.alloc (.cells #[.int .i64 0, .slice C2 m2 k2] 28))
  replace X2 := Lib.hid (X2.out.alloc (.cells #[.int .i64 0, .slice C2 m2 k2] 28))
  replace X3 := Lib.hid (X3.out.alloc (.cells #[.int .i64 0, .slice C2 m2 k2] 28))
  replace Y1 := Lib.hid (Y1.out.alloc (.cells #[.int .i64 0, .slice C2 m2 k2] 28))
  replace E1 := Lib.hid (E1.out.alloc (.cells #[.int .i64 0, .slice C2 m2 k2] 28))
  have b6a := b6.alloc b6.size (.cells #[.int .i64 0, .slice C2 m2 k2] 28)
  generalize w6.alloc (.cells #[.int .i64 0, .slice C2 m2 k2] 28) = w6a at *
  generalize w6.heap.size = y2 at *
  have k_X2 := X2.out.blk.cell; have l_X2 := X2.out.blk.lt
  have k_X3 := X3.out.blk.cell; have l_X3 := X3.out.blk.lt
  go_wp2_with fail
  clear k_X2 l_X2 k_X3 l_X3
  refine (HC3.out _ _ _ X2.out.mach X3.out.mach).mono ?_; rintro e w7 ⟨⟨C3, k3, m3, er3, rfl, hco⟩, q7⟩
  have b7 : Below w.heap.size w w7 := b6a.trans (q7.mono b6a.size)
  replace X2 := Lib.hid (X2.out.step q7)
  replace X3 := Lib.hid (X3.out.step q7)
  replace Y1 := Lib.hid (Y1.out.step q7)
  replace E1 := Lib.hid (E1.out.step q7)
  replace Y2 := Lib.hid (Y2.out.step q7)
  replace E2 := Lib.hid (E2.out.step q7)
  have Y3 := Lib.hid (Blk.new w7 #[.int .i64 0, .slice C3 m3 k3] 28)
  have E3 := Lib.hid (hco.alloc (.cells #[.int .i64 0, .slice C3 m3 k3] 28))
  clear hco
  go_upto_region 8 with fail
  replace X2 := Lib.hid (X2.out.alloc (.cells #[.int .i64 0, .slice C3 m3 k3] 28))
  replace X3 := Lib.hid (X3.out.alloc (.cells #[.int .i64 0, .slice C3 m3 k3] 28))
  replace Y1 := Lib.hid (Y1.out.alloc (.cells #[.int .i64 0, .slice C3 m3 k3] 28))
  replace E1 := Lib.hid (E1.out.alloc (.cells #[.int .i64 0, .slice C3 m3 k3] 28))
  replace Y2 := Lib.hid (Y2.out.alloc (.cells #[.int .i64 0, .slice C3 m3 k3] 28))
  replace E2 := Lib.hid (E2.out.alloc (.cells #[.int .i64 0, .slice C3 m3 k3] 28))
  have b7a := b7.alloc b7.size (.cells #[.int .i64 0, .slice C3 m3 k3] 28)
  generalize w7.alloc (.cells #[.int .i64 0, .slice C3 m3 k3] 28) = w7a at *
  generalize w7.heap.size = y3 at *
  rcases E1.out.full with ⟨rfl, rfl, rfl, rfl⟩ | ⟨rfl, f1, hf1⟩
  · go_wp2_with fail
    go_ret
    exact ⟨rfl, b7a⟩
  rcases E2.out.full with ⟨rfl, rfl, rfl, rfl⟩ | ⟨rfl, f2, hf2⟩
  · go_wp2_with fail
    go_ret
    exact ⟨rfl, b7a⟩
  rcases E3.out.full with ⟨rfl, rfl, rfl, rfl⟩ | ⟨rfl, f3, hf3⟩
  · go_wp2_with fail
    go_ret
    exact ⟨rfl, b7a⟩
  have H1 := Lib.hid hf1
  clear hf1 E1
  have H2 := Lib.hid hf2
  clear hf2 E2
  have H3 := Lib.hid hf3
  clear hf3 E3
  go_wp2_with fail
  refine (HWX.out _ b7a).mono ?_; rintro e w8 ⟨xv, rfl, ox, q8⟩
  have b8 : Below w.heap.size w w8 := b7a.trans (q8.mono b7a.size)
  replace Y1 := Lib.hid (Y1.out.step q8)
  replace Y2 := Lib.hid (Y2.out.step q8)
  replace Y3 := Lib.hid (Y3.out.step q8)
  replace H1 := Lib.hid (H1.out.step q8)
  replace H2 := Lib.hid (H2.out.step q8)
  replace H3 := Lib.hid (H3.out.step q8)
  obtain ⟨AX, cX, rfl, rx⟩ := word_open ox
  have RX := Lib.hid rx
  clear ox rx
  go_wp2_with fail
  refine (HWY.out _ b8).mono ?_; rintro e w9 ⟨xv, rfl, ox, q9⟩
  have b9 : Below w.heap.size w w9 := b8.trans (q9.mono b8.size)
  replace Y1 := Lib.hid (Y1.out.step q9)
  replace Y2 := Lib.hid (Y2.out.step q9)
  replace Y3 := Lib.hid (Y3.out.step q9)
  replace H1 := Lib.hid (H1.out.step q9)
  replace H2 := Lib.hid (H2.out.step q9)
  replace H3 := Lib.hid (H3.out.step q9)
  replace RX := Lib.hid (RX.out.below q9 rfl)
  obtain ⟨AY, cY, rfl, rx⟩ := word_open ox
  have RY := Lib.hid rx
  clear ox rx
  have hp1 : (0 : Int) < (m1 : Int) := by have := H1.out.pos; omega
  have k_Y2 := Y2.out.cell; have l_Y2 := Y2.out.lt
  go_wp2_with fail
  clear k_Y2 l_Y2
  refine (H2.out.cost AX AY cX cY x y RX.out RY.out (by omega) (by omega) BX.out BY.out).mono ?_; rintro e w10 ⟨v2, rfl, hB2, hv2, q10⟩
  have b10 : Below w.heap.size w w10 := b9.trans (q10.mono b9.size)
  replace Y1 := Lib.hid (Y1.out.step q10)
  replace Y2 := Lib.hid (Y2.out.step q10)
  replace Y3 := Lib.hid (Y3.out.step q10)
  replace H1 := Lib.hid (H1.out.step q10)
  replace H2 := Lib.hid (H2.out.step q10)
  replace H3 := Lib.hid (H3.out.step q10)
  replace RX := Lib.hid (RX.out.below q10 rfl)
  replace RY := Lib.hid (RY.out.below q10 rfl)
  have HB2 := Lib.hid hB2
  clear hB2
  have k_Y3 := Y3.out.cell; have l_Y3 := Y3.out.lt
  go_wp2_with fail
  clear k_Y3 l_Y3
  refine (H3.out.cost AX AY cX cY x y RX.out RY.out (by omega) (by omega) BX.out BY.out).mono ?_; rintro e w11 ⟨v3, rfl, hB3, hv3, q11⟩
  have b11 : Below w.heap.size w w11 := b10.trans (q11.mono b10.size)
  replace Y1 := Lib.hid (Y1.out.step q11)
  replace Y2 := Lib.hid (Y2.out.step q11)
  replace Y3 := Lib.hid (Y3.out.step q11)
  replace H1 := Lib.hid (H1.out.step q11)
  replace H2 := Lib.hid (H2.out.step q11)
  replace H3 := Lib.hid (H3.out.step q11)
  replace RX := Lib.hid (RX.out.below q11 rfl)
  replace RY := Lib.hid (RY.out.below q11 rfl)
  have HB3 := Lib.hid hB3
  clear hB3
  have k_Y1 := Y1.out.cell; have l_Y1 := Y1.out.lt
  go_wp2_with fail
  clear k_Y1 l_Y1
  refine (H1.out.cost AX AY cX cY x y RX.out RY.out (by omega) (by omega) BX.out BY.out).mono ?_; rintro e w12 ⟨v1, rfl, hB1, hv1, q12⟩
  have b12 : Below w.heap.size w w12 := b11.trans (q12.mono b11.size)
  replace Y1 := Lib.hid (Y1.out.step q12)
  replace Y2 := Lib.hid (Y2.out.step q12)
  replace Y3 := Lib.hid (Y3.out.step q12)
  replace H1 := Lib.hid (H1.out.step q12)
  replace H2 := Lib.hid (H2.out.step q12)
  replace H3 := Lib.hid (H3.out.step q12)
  replace RX := Lib.hid (RX.out.below q12 rfl)
  replace RY := Lib.hid (RY.out.below q12 rfl)
  have HMIN : Hid (v1 = min v2 v3) := Lib.hid (Best.or HB2.out HB3.out hB1 (fun q => (H1.out.tot x y q).trans ((HEQ.out q).trans (or_congr (H2.out.tot x y q).symm (H3.out.tot x y q).symm))))
  clear hB1
  by_cases hle : v2 ≤ v3
  · have e1 : v1 = v2 := by have := HMIN.out; omega
    subst e1
    go_wp2_with fail
    all_goals
      go_ret
      exact ⟨by first | rfl | (simp; omega), b12⟩
  · have e1 : v1 = v3 := by have := HMIN.out; omega
    subst e1
    go_wp2_with fail
    all_goals
      go_ret
      exact ⟨by first | rfl | (simp; omega), b12⟩
end composeOver
end Go.Proofs.Ytfikkpgigicepaa
