/- The walk of PathsAdd. -/
import Derived.Test.YteniblkmokpjjaaForward
import Derived.Test.YteniblkmokpjjaaPaths
import Derived.Test.YteniblkmokpjjaaAddPlain
import Derived.Test.YteniblkmokpjjaaUnion
import Derived.Test.YteniblkmokpjjaaMBox
import Derived.IntWalk
namespace Go.Proofs.Yteniblkmokpjjaa
open Go.RowKit

theorem fwd6 (r : RawL) : FwdSmall (fwdM (mkMach r 6 false)) ∧ (fwdM (mkMach r 6 false)).states.length ≤ 6 := by
  refine ⟨fwdSmall_madeK r 6 (by omega) (by omega), ?_⟩
  have h1 := mkMach_len r 6 false (by omega)
  have h2 : mkN r 6 ≤ 6 ∧ 1 ≤ mkN r 6 := by unfold mkN; omega
  rw [fwdM_len]; omega
namespace pathsAdd
set_option maxRecDepth 100000 in
set_option maxHeartbeats 8000000 in
theorem walk {w : World} (v1 : Value) (r1 : RawL) (hr1 : RawArg w v1 r1) (v2 : Value) (r2 : RawL) (hr2 : RawArg w v2 r2) :
    Calls Try.prog 6 #[v1, v2] w fun e w' => e = .returned (.bool true) ∧ Below w.heap.size w w' := by
  have HMA := Lib.hid (fun W (hb : Below w.heap.size w W) => forward_any v1 r1 6 W (hr1.below hb) (by omega) (by omega))
  have HMB := Lib.hid (fun W (hb : Below w.heap.size w W) => forward_any v2 r2 6 W (hr2.below hb) (by omega) (by omega))
  obtain ⟨ha, ha6⟩ := fwd6 r1
  obtain ⟨hb, hb6⟩ := fwd6 r2
  obtain ⟨-, -, A, c, rfl, -⟩ := hr1
  obtain ⟨-, -, B, d, rfl, -⟩ := hr2
  generalize fwdM (mkMach r1 6 false) = a at *
  generalize fwdM (mkMach r2 6 false) = b at *
  have hna := ha.n1; have hnb := hb.n1
  have hca := ha.arcs; have hcb := hb.arcs
  have HVA := Lib.hid ha.v; have HVB := Lib.hid hb.v
  have hcv := concat_valid ha.v hb.v (by omega) (by omega)
  have HVU := Lib.hid hcv
  have huv := union_valid ha.v hb.v (by omega) (by omega)
  have HVW := Lib.hid huv
  obtain ⟨CA, hCA, hCA1, hCA2⟩ := counts6 ha ha6
  obtain ⟨CB, hCB, hCB1, hCB2⟩ := counts6 hb hb6
  have hCU := union_counts ha.v hb.v ha.s0 hb.s0 hna hCA hCB
  have hCC := concat_counts ha.v hb.v hb.s0 hna hCA hCB
  have tU := union_total (a := a) (b := b) (A := CA) (B := CB)
  have tC := concat_total (a := a) (b := b) (A := CA) (B := CB)
  have mP : tot a CA * tot b CB ≤ 18750 * 18750 := Nat.mul_le_mul hCA2 hCB2
  have bU : ∀ q, q < (unionM a b).states.length → unionC a CA CB q ≤ 1000000000 := fun q hq => by
    rw [union_len] at hq
    unfold unionC
    split
    · omega
    · split
      · have := hCA1 (q - 1) (by omega); omega
      · have := hCB1 (q - (1 + a.states.length)) (by omega); omega
  have bC : ∀ q, q < (concatM a b).states.length → concatC a CA CB q ≤ 1000000000 := fun q hq => by
    rw [concat_len] at hq
    unfold concatC
    split
    · have := hCA1 q (by omega); omega
    · have h1 := hCB1 (q - a.states.length) (by omega)
      have := Nat.mul_le_mul hCA2 h1
      omega
  have PA := Lib.hid (fun W u (h : MachAt W u a) => Paths_any u a W h ha.v 0 ha.s0 CA hCA (fun q hq => by have := hCA1 q hq; omega) (by omega) (fun S hS => fwd_not_stuck ha.f hS))
  have PB := Lib.hid (fun W u (h : MachAt W u b) => Paths_any u b W h hb.v 0 hb.s0 CB hCB (fun q hq => by have := hCB1 q hq; omega) (by omega) (fun S hS => fwd_not_stuck hb.f hS))
  have PU := Lib.hid (fun W u (h : MachAt W u (unionM a b)) => Paths_any u (unionM a b) W h huv 0 rfl (unionC a CA CB) hCU bU (by omega) (union_stuck ha hb))
  have PC := Lib.hid (fun W u (h : MachAt W u (concatM a b)) => Paths_any u (concatM a b) W h hcv 0 ha.s0 (concatC a CA CB) hCC bC (by omega) (concat_stuck ha hb))
  rw [tU] at PU
  rw [tC] at PC
  have hvl : ((unionM a b).states.length : Int) = a.states.length + b.states.length + 1 := by rw [union_len]; omega
  have hpi : ((tot a CA : Nat) : Int) * ((tot b CB : Nat) : Int) = ((tot a CA * tot b CB : Nat) : Int) := by simp
  have hsi : ((tot a CA + tot b CB : Nat) : Int) = (tot a CA : Int) + (tot b CB : Int) := by simp
  rw [hsi] at PU
  generalize tot a CA * tot b CB = P at *
  generalize tot a CA = TA at *
  generalize tot b CB = TB at *
  clear hCA hCB hCA1 hCB1 hCU hCC tU tC bU bC hsi
  clear ha hb hcv huv hca hcb
  generalize hum : concatM a b = u at *
  have HUM := Lib.hid hum; clear hum
  generalize hvm : unionM a b = x at *
  have HXM := Lib.hid hvm; clear hvm
  go_enter Try.func6, Try.ntmps6
  go_wp2_with fail
  refine (HMA.out _ (by repeat' (first | exact Below.refl _ _ | assumption | refine Below.drew ?_ | refine Below.alloc ?_ (by first | omega | (simp; done) | (simp; omega)) _ | refine Below.setCell ?_ (by first | omega | (simp; done) | (simp; omega)) _))).mono ?_; rintro e w1 ⟨mv, rfl, o1, q1⟩
  obtain ⟨A3, c3, rfl, s1⟩ := own_open o1
  have b1 : Below w.heap.size w w1 := ((by repeat' (first | exact Below.refl _ _ | assumption | refine Below.drew ?_ | refine Below.alloc ?_ (by first | omega | (simp; done) | (simp; omega)) _ | refine Below.setCell ?_ (by first | omega | (simp; done) | (simp; omega)) _)) : Below w.heap.size w _).trans (q1.mono (by simp; omega))
  have hz : Hid (Blk w1 (w.heap.size + 1) #[.int .i64 r2.start, .slice B r2.nodes.length d] 24) := Lib.hid (Blk.step (Blk.new' (by simp)) q1)
  have X1 := Lib.hid (MBox.new (c := c3) s1)
  have b1a := b1.alloc b1.size (.cells #[.int .i64 a.start, .slice A3 a.states.length c3] 27)
  have kz := hz.out.cell; have lz := hz.out.lt
  clear o1 q1 HMA s1
  go_wp2_with fail
  clear kz lz
  refine (HMB.out _ b1a).mono ?_; rintro e w2 ⟨mv2, rfl, o2, q2⟩
  obtain ⟨A4, c4, rfl, s2⟩ := own_open o2
  have b2 : Below w.heap.size w w2 := b1a.trans (q2.mono b1a.size)
  have Y2 := Lib.hid (MBox.new (c := c4) s2)
  have X2 := Lib.hid ((X1.out.step q2).alloc (.cells #[.int .i64 b.start, .slice A4 b.states.length c4] 27))
  have b2a := b2.alloc b2.size (.cells #[.int .i64 b.start, .slice A4 b.states.length c4] 27)
  have kx := (X1.out.step q2).blk.cell; have lx2 := (X1.out.step q2).blk.lt
  clear o2 q2 HMB s2 X1 b1a b1 hz
  go_wp2_with fail
  clear kx lx2
  refine (Union_any _ _ a b _ X2.out.mach Y2.out.mach HVA.out HVB.out (by rw [HXM.out]; exact HVW.out)).mono ?_; rintro e w3 ⟨mv3, rfl, o3, q3⟩
  rw [HXM.out] at o3
  obtain ⟨A5, c5, rfl, s3⟩ := own_open o3
  have b3 : Below w.heap.size w w3 := b2a.trans (q3.mono b2a.size)
  have V3 := Lib.hid (MBox.new (c := c5) s3)
  have X3 := Lib.hid ((X2.out.step q3).alloc (.cells #[.int .i64 x.start, .slice A5 x.states.length c5] 27))
  have Y3 := Lib.hid ((Y2.out.step q3).alloc (.cells #[.int .i64 x.start, .slice A5 x.states.length c5] 27))
  have b3a := b3.alloc b3.size (.cells #[.int .i64 x.start, .slice A5 x.states.length c5] 27)
  have k3 := (X2.out.step q3).blk.cell; have l3 := (X2.out.step q3).blk.lt; have k3b := (Y2.out.step q3).blk.cell; have l3b := (Y2.out.step q3).blk.lt
  clear o3 q3 s3 X2 Y2 b2 b2a
  go_wp2_with fail
  clear k3 l3 k3b l3b
  generalize w3.alloc (.cells #[.int .i64 x.start, .slice A5 x.states.length c5] 27) = w3x at *
  refine (Concat_any _ _ a b _ X3.out.mach Y3.out.mach HVA.out HVB.out (by rw [HUM.out]; exact HVU.out)).mono ?_; rintro e w4 ⟨mv4, rfl, o4, q4⟩
  rw [HUM.out] at o4
  obtain ⟨A6, c6, rfl, s4⟩ := own_open o4
  have b4 : Below w.heap.size w w4 := b3a.trans (q4.mono b3a.size)
  have Z4 := Lib.hid (MBox.new (c := c6) s4)
  have X4 := Lib.hid ((X3.out.step q4).alloc (.cells #[.int .i64 u.start, .slice A6 u.states.length c6] 27))
  have Y4 := Lib.hid ((Y3.out.step q4).alloc (.cells #[.int .i64 u.start, .slice A6 u.states.length c6] 27))
  have V4 := Lib.hid ((V3.out.step q4).alloc (.cells #[.int .i64 u.start, .slice A6 u.states.length c6] 27))
  have b4a := b4.alloc b4.size (.cells #[.int .i64 u.start, .slice A6 u.states.length c6] 27)
  have k4 := (X3.out.step q4).blk.cell; have l4 := (X3.out.step q4).blk.lt
  clear o4 q4 s4 X3 Y3 V3 b3 b3a
  go_wp2_with fail
  clear k4 l4
  generalize w4.alloc (.cells #[.int .i64 u.start, .slice A6 u.states.length c6] 27) = w4x at *
  refine (PA.out _ _ X4.out.mach).mono ?_; rintro e w5 ⟨rfl, q5⟩
  have b5 : Below w.heap.size w w5 := b4a.trans (q5.mono b4a.size)
  have X5 := Lib.hid (X4.out.step q5); have Y5 := Lib.hid (Y4.out.step q5); have Z5 := Lib.hid (Z4.out.step q5); have V5 := Lib.hid (V4.out.step q5)
  have k5 := Y5.out.blk.cell; have l5 := Y5.out.blk.lt
  clear q5 X4 Y4 Z4 V4 b4a b4
  go_wp2_with fail
  clear k5 l5
  refine (PB.out _ _ Y5.out.mach).mono ?_; rintro e w6 ⟨rfl, q6⟩
  have b6 : Below w.heap.size w w6 := b5.trans (q6.mono b5.size)
  have X6 := Lib.hid (X5.out.step q6); have Y6 := Lib.hid (Y5.out.step q6); have Z6 := Lib.hid (Z5.out.step q6); have V6 := Lib.hid (V5.out.step q6)
  have k6 := V6.out.blk.cell; have l6 := V6.out.blk.lt
  clear q6 X5 Y5 Z5 V5 b5
  go_wp2_with fail
  clear k6 l6
  refine (PU.out _ _ V6.out.mach).mono ?_; rintro e w7 ⟨rfl, q7⟩
  have b7 : Below w.heap.size w w7 := b6.trans (q7.mono b6.size)
  have X7 := Lib.hid (X6.out.step q7); have Y7 := Lib.hid (Y6.out.step q7); have Z7 := Lib.hid (Z6.out.step q7); have V7 := Lib.hid (V6.out.step q7)
  have k7 := Z7.out.blk.cell; have l7 := Z7.out.blk.lt
  clear q7 X6 Y6 Z6 V6 b6
  go_wp2_with fail
  clear k7 l7
  refine (PC.out _ _ Z7.out.mach).mono ?_; rintro e w8 ⟨rfl, q8⟩
  have b8 : Below w.heap.size w w8 := b7.trans (q8.mono b7.size)
  have X8 := X7.out.step q8; have Y8 := Y7.out.step q8; have V8 := V7.out.step q8
  have k8 := X8.blk.cell; have l8 := X8.blk.lt; have k9 := Y8.blk.cell; have l9 := Y8.blk.lt; have k10 := V8.blk.cell; have l10 := V8.blk.lt
  clear q8 X7 Y7 Z7 V7 b7 X8 Y8 V8
  go_wp2_with fail
  go_ret
  exact ⟨rfl, b8⟩
end pathsAdd
end Go.Proofs.Yteniblkmokpjjaa
