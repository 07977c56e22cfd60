/- The walk of ComposeBetween. -/
import Derived.Test.YtfikkpgigicepaaCompose
import Derived.Test.YtfikkpgigicepaaCompLaw
namespace Go.Proofs.Ytfikkpgigicepaa
open Go.RowKit

/-- what a law's walk needs of Compose -/
def CompOut (a b : MachL) (w' : World) (e : Ending) (W : Int) : Prop :=
  (e = .returned (.tuple #[.agg #[.int .i64 0, .slice none 0 0], .int .i64 5]) ∧ FullWhy a b) ∨ ∃ A k c, e = .returned (.tuple #[.agg #[.int .i64 0, .slice A c.states.length k], .int .i64 0]) ∧ StatesAt w' A c.states ∧ c.start = 0 ∧ Valid c ∧ Wt c W ∧ 0 < c.states.length ∧ ∀ x z d, Tot c x z false d ↔ Comp a b x z d
theorem compose_out (va vb : Value) (a b : MachL) (W1 W2 : Int) (w : World) (ha : MachAt w va a) (hb : MachAt w vb b) (hva : Valid a) (hvb : Valid b) (ha0 : 0 ≤ a.start) (hb0 : 0 ≤ b.start) (h1 : Wt a W1) (h2 : Wt b W2) (hle : W1 + W2 ≤ 1000000000) :
    Calls Try.prog 16 #[va, vb] w fun e w' => CompOut a b w' e (W1 + W2) ∧ Below w.heap.size w w' :=
  (Compose_any va vb a b W1 W2 w ha hb hva hvb ha0 hb0 (h1.ok h2 hle)).mono (by
    rintro e w' ⟨h, hbl⟩
    refine ⟨?_, hbl⟩
    rcases h with h | ⟨mv, c, T, rfl, ho, hc, hs, hA⟩
    · exact .inl h
    · right
      obtain ⟨A, k, rfl, s1⟩ := own_open ho
      obtain ⟨v1, v2⟩ := comp_valid hva hvb (h1.ok h2 hle) hc hs hA
      exact ⟨A, k, c, by rw [hc.start], s1, hc.start, v1, v2, comp_pos hc, fun x z d => compose_tot hc (h1.endOk h2 hle) ha0 hb0 x z d⟩)
theorem made_size4 (r : RawL) (k : Int) (k1 : 1 ≤ k) : (mkMach r k false).states.length ≤ k.toNat := by
  have h1 := mkMach_len r k false k1
  have h2 : mkN r k ≤ k ∧ 1 ≤ mkN r k := by unfold mkN; omega
  omega

namespace composeBetween
set_option maxRecDepth 100000 in
set_option maxHeartbeats 8000000 in
theorem walk {w : World} (v1 : Value) (r1 : RawL) (hr1 : RawArg w v1 r1) (v2 : Value) (r2 : RawL) (hr2 : RawArg w v2 r2) (A1 : Option Addr) (n1 k1 : Nat) (xs : List Int) (hx : IntArg w A1 n1 xs) (A2 : Option Addr) (n2 k2 : Nat) (ys : List Int) (hy : IntArg w A2 n2 ys) (A0 : Option Addr) (n0 k0 : Nat) (zs : List Int) (hz : IntArg w A0 n0 zs) :
    Calls Try.prog 5 #[v1, v2, .slice A1 n1 k1, .slice A2 n2 k2, .slice A0 n0 k0] w fun e w' => e = .returned (.bool true) ∧ Below w.heap.size w w' := by
  have hma : Valid (mkMach r1 4 false) := valid_made r1 4 false (by omega) (by omega)
  have hmb : Valid (mkMach r2 4 false) := valid_made r2 4 false (by omega) (by omega)
  have hsa : Little (mkMach r1 4 false) 4 4 := made_little r1 4 false (by omega)
  have hsb : Little (mkMach r2 4 false) 4 4 := made_little r2 4 false (by omega)
  have ha0 : 0 ≤ (mkMach r1 4 false).start := pick_lo _ _ (by unfold mkN; omega)
  have hb0 : 0 ≤ (mkMach r2 4 false).start := pick_lo _ _ (by unfold mkN; omega)
  have HMA := Lib.hid (fun W hb => made_any v1 r1 4 false W (hr1.below hb) (by omega) (by omega))
  have HMB := Lib.hid (fun W hb => made_any v2 r2 4 false W (hr2.below hb) (by omega) (by omega))
  have HWX := Lib.hid (fun W hb => word_any A1 n1 k1 xs 3 W (hx.below hb) (by omega))
  have HWY := Lib.hid (fun W hb => word_any A2 n2 k2 ys 3 W (hy.below hb) (by omega))
  have HWZ := Lib.hid (fun W hb => word_any A0 n0 k0 zs 4 W (hz.below hb) (by omega))
  have lx := mkWord_len xs 3; have ly := mkWord_len ys 3; have lz := mkWord_len zs 4
  have BX := Lib.hid (word_b xs 3); have BY := Lib.hid (word_b ys 3); have BZ := Lib.hid (word_b zs 4)
  obtain ⟨-, -, A, c, rfl, -⟩ := hr1
  obtain ⟨-, -, B, d, rfl, -⟩ := hr2
  generalize mkMach r1 4 false = a at *
  generalize mkMach r2 4 false = b at *
  generalize mkWord xs 3 = x at *
  generalize mkWord ys 3 = y at *
  generalize mkWord zs 4 = z at *
  have HVA := Lib.hid hma; have HVB := Lib.hid hmb
  have HCA := Lib.hid (hsa.ok 4 4 (show x.length ≤ 4 by omega) (show z.length ≤ 4 by omega) (by omega)); have HCB := Lib.hid (hsb.ok 4 4 (show z.length ≤ 4 by omega) (show y.length ≤ 4 by omega) (by omega))
  have HCO := Lib.hid (fun va vb W h1 h2 => compose_out va vb a b 9 9 W h1 h2 hma hmb ha0 hb0 hsa.wt9 hsb.wt9 (by omega))
  clear hma hmb hsa hsb hx hy hz ha0 hb0
  go_enter Try.func5, Try.ntmps5
  go_wp2_with fail
  refine (HMA.out _ (by repeat' (first | exact Below.refl _ _ | assumption | refine Below.drew ?_ | refine Below.alloc ?_ (by first | omega | (simp; done) | (simp; omega)) _ | refine Below.setCell ?_ (by first | omega | (simp; done) | (simp; omega)) _))).mono ?_; rintro e w1 ⟨mv, rfl, o1, q1⟩
  obtain ⟨A3, c3, rfl, s1⟩ := own_open o1
  have b1 : Below w.heap.size w w1 := ((by repeat' (first | exact Below.refl _ _ | assumption | refine Below.drew ?_ | refine Below.alloc ?_ (by first | omega | (simp; done) | (simp; omega)) _ | refine Below.setCell ?_ (by first | omega | (simp; done) | (simp; omega)) _)) : Below w.heap.size w _).trans (q1.mono (by simp; omega))
  have hzz : Hid (Blk w1 (w.heap.size + 1) #[.int .i64 r2.start, .slice B r2.nodes.length d] 24) := Lib.hid (Blk.step (Blk.new' (by simp)) q1)
  have X1 := Lib.hid (MBox.new (c := c3) s1)
  have b1a := b1.alloc b1.size (.cells #[.int .i64 a.start, .slice A3 a.states.length c3] 28)
  have kz := hzz.out.cell; have lz' := hzz.out.lt
  clear o1 q1 HMA s1
  go_wp2_with fail
  clear kz lz'
  refine (HMB.out _ b1a).mono ?_; rintro e w2 ⟨mv2, rfl, o2, q2⟩
  obtain ⟨A4, c4, rfl, s2⟩ := own_open o2
  have b2 : Below w.heap.size w w2 := b1a.trans (q2.mono b1a.size)
  have Y2 := Lib.hid (MBox.new (c := c4) s2)
  have X2 := Lib.hid ((X1.out.step q2).alloc (.cells #[.int .i64 b.start, .slice A4 b.states.length c4] 28))
  have b2a := b2.alloc b2.size (.cells #[.int .i64 b.start, .slice A4 b.states.length c4] 28)
  have kx := (X1.out.step q2).blk.cell; have lx2 := (X1.out.step q2).blk.lt
  clear o2 q2 HMB s2 X1 b1a b1 hzz
  go_wp2_with fail
  clear kx lx2
  generalize w2.alloc (.cells #[.int .i64 b.start, .slice A4 b.states.length c4] 28) = w2a at *
  generalize w1.heap.size = ba at *
  generalize w2.heap.size = bb at *
  refine (HCO.out _ _ _ X2.out.mach Y2.out.mach).mono ?_; rintro e w3 ⟨hco, q3⟩
  have b3 : Below w.heap.size w w3 := b2a.trans (q3.mono b2a.size)
  have X3 := Lib.hid (X2.out.step q3); have Y3 := Lib.hid (Y2.out.step q3)
  clear q3 X2 Y2 b2 b2a HCO
  rcases hco with ⟨rfl, -⟩ | ⟨A5, c5, c, rfl, s3, hc0, hcv, hcw, hcp, hct⟩
  · go_wp2_with fail
    go_ret
    exact ⟨rfl, b3.alloc b3.size _⟩
  · have U3 : Hid (MBox (w3.alloc (.cells #[.int .i64 0, .slice A5 c.states.length c5] 28)) w3.heap.size A5 c5 c) := Lib.hid (by have := MBox.new (c := c5) s3; rw [hc0] at this; exact this)
    have X4 := Lib.hid (X3.out.alloc (.cells #[.int .i64 0, .slice A5 c.states.length c5] 28)); have Y4 := Lib.hid (Y3.out.alloc (.cells #[.int .i64 0, .slice A5 c.states.length c5] 28))
    have b4 := b3.alloc b3.size (.cells #[.int .i64 0, .slice A5 c.states.length c5] 28)
    have HCV := Lib.hid hcv; have HCW := Lib.hid hcw; have HCT := Lib.hid hct; have HC0 := Lib.hid hc0
    clear s3 X3 Y3 b3 hcv hcw hct hc0
    go_upto_region 6 with fail
    generalize w3.alloc (.cells #[.int .i64 0, .slice A5 c.states.length c5] 28) = w4 at *
    generalize w3.heap.size = bc at *
    go_wp2_with fail
    refine (HWX.out _ b4).mono ?_; rintro e w5 ⟨xv, rfl, ox, q5⟩
    obtain ⟨A6, c6, rfl, rx⟩ := word_open ox
    have RX := Lib.hid rx
    have b5 : Below w.heap.size w w5 := b4.trans (q5.mono b4.size)
    have X5 := Lib.hid (X4.out.step q5); have Y5 := Lib.hid (Y4.out.step q5); have U5 := Lib.hid (U3.out.step q5)
    clear ox rx q5 X4 Y4 U3 b4 HWX
    go_wp2_with fail
    refine (HWY.out _ b5).mono ?_; rintro e w6 ⟨yv, rfl, oy, q6⟩
    obtain ⟨A7, c7, rfl, ry⟩ := word_open oy
    have RY := Lib.hid ry
    have b6 : Below w.heap.size w w6 := b5.trans (q6.mono b5.size)
    have X6 := Lib.hid (X5.out.step q6); have Y6 := Lib.hid (Y5.out.step q6); have U6 := Lib.hid (U5.out.step q6); have RX6 := Lib.hid (RX.out.below q6 rfl)
    clear oy ry q6 X5 Y5 U5 RX b5 HWY
    go_wp2_with fail
    refine (HWZ.out _ b6).mono ?_; rintro e w7 ⟨zv, rfl, oz, q7⟩
    obtain ⟨A8, c8, rfl, rz⟩ := word_open oz
    have RZ := Lib.hid rz
    have b7 : Below w.heap.size w w7 := b6.trans (q7.mono b6.size)
    have X7 := Lib.hid (X6.out.step q7); have Y7 := Lib.hid (Y6.out.step q7); have U7 := Lib.hid (U6.out.step q7); have RX7 := Lib.hid (RX6.out.below q7 rfl); have RY7 := Lib.hid (RY.out.below q7 rfl)
    have k7 := X7.out.blk.cell; have l7 := X7.out.blk.lt
    clear oz rz q7 X6 Y6 U6 RX6 RY b6 HWZ
    go_wp2_with fail
    clear k7 l7
    refine (cost_any _ a x z A6 A8 c6 c8 _ X7.out.mach HVA.out RX7.out RZ.out (by omega) (by omega) BX.out BZ.out HCA.out).mono ?_; rintro e w8 ⟨na, rfl, hBa, q8⟩
    have b8 : Below w.heap.size w w8 := b7.trans (q8.mono b7.size)
    have HBA := Lib.hid hBa
    have hna := hBa.nonneg HVA.out
    have Y8 := Lib.hid (Y7.out.step q8); have U8 := Lib.hid (U7.out.step q8); have RX8 := Lib.hid (RX7.out.below q8 rfl); have RY8 := Lib.hid (RY7.out.below q8 rfl); have RZ8 := Lib.hid (RZ.out.below q8 rfl)
    have k8 := Y8.out.blk.cell; have l8 := Y8.out.blk.lt
    clear hBa q8 X7 Y7 U7 RX7 RY7 RZ b7
    go_wp2_with fail
    clear k8 l8
    refine (cost_any _ b z y A8 A7 c8 c7 _ Y8.out.mach HVB.out RZ8.out RY8.out (by omega) (by omega) BZ.out BY.out HCB.out).mono ?_; rintro e w9 ⟨nb, rfl, hBb, q9⟩
    have b9 : Below w.heap.size w w9 := b8.trans (q9.mono b8.size)
    have HBB := Lib.hid hBb
    have hnb := hBb.nonneg HVB.out
    have U9 := Lib.hid (U8.out.step q9); have RX9 := Lib.hid (RX8.out.below q9 rfl); have RY9 := Lib.hid (RY8.out.below q9 rfl)
    have k9 := U9.out.blk.cell; have l9 := U9.out.blk.lt
    rw [HC0.out] at k9
    have hcp2 : (0 : Int) < (c.states.length : Int) := by omega
    have HCC := Lib.hid (wt_costOk HCV.out HCW.out (by omega) (show x.length ≤ 4 by omega) (show y.length ≤ 4 by omega))
    have UM := Lib.hid (fun W (h : MBox W bc A5 c5 c) => (show MachAt W (.agg #[.int .i64 0, .slice A5 c.states.length c5]) c from by have := h.mach; rw [HC0.out] at this; exact this))
    clear hBb q9 Y8 U8 RX8 RY8 RZ8 b8
    go_wp2_with fail
    clear k9 l9
    refine (cost_any _ c x y A6 A7 c6 c7 _ (UM.out _ U9.out) HCV.out RX9.out RY9.out (by omega) (by omega) BX.out BY.out HCC.out).mono ?_; rintro e w10 ⟨nc, rfl, hBc, q10⟩
    have b10 : Below w.heap.size w w10 := b9.trans (q10.mono b9.size)
    have hnc := hBc.nonneg HCV.out
    have hle := comp_between (HCT.out x y) HBA.out HBB.out hBc
    have HBC := Lib.hid hBc
    have U10 := Lib.hid (U9.out.step q10); have RX10 := Lib.hid (RX9.out.below q10 rfl); have RY10 := Lib.hid (RY9.out.below q10 rfl)
    have k10 := U10.out.blk.cell; have l10 := U10.out.blk.lt
    rw [HC0.out] at k10
    clear hBc q10 U9 RX9 RY9 b9
    have hi : INF = 1000000001 := rfl
    go_wp2_with fail
    refine (both2_any na nb _ (by omega) (by omega)).mono ?_; rintro e w' ⟨rfl, rfl⟩
    generalize bothV na nb = nbv at *
    go_wp2_with fail
    clear k10 l10
    refine (cost_any _ c x y A6 A7 c6 c7 _ (UM.out _ U10.out) HCV.out RX10.out RY10.out (by omega) (by omega) BX.out BY.out HCC.out).mono ?_; rintro e w11 ⟨nc2, rfl, hBc2, q11⟩
    have hnc2 := hBc2.nonneg HCV.out
    have b11 : Below w.heap.size w w11 := b10.trans (q11.mono b10.size)
    clear hBc2 q11
    go_wp2_with fail
    go_ret
    exact ⟨rfl, b11⟩
end composeBetween
end Go.Proofs.Ytfikkpgigicepaa
