/- The walk of ReversePaths. -/
import Derived.Test.YtonjbchjfhknlaaForward
import Derived.Test.YtonjbchjfhknlaaPaths
import Derived.Test.YtonjbchjfhknlaaRevPaths
import Derived.Test.YtonjbchjfhknlaaMBox
import Derived.Deep.QuietTactic
import Derived.BigQuiet
import Derived.IntWalk
namespace Go.Proofs.Ytonjbchjfhknlaa
open Go.RowKit

namespace reversePaths
set_option maxRecDepth 100000 in
set_option maxHeartbeats 8000000 in
theorem walk {w : World} (v : Value) (r : RawL) (hr : RawArg w v r) :
    Calls Try.prog 3 #[v] w fun e w' => e = .returned (.bool true) ∧ Below w.heap.size w w' := by
  have HFD := Lib.hid (fun W (hb : Below w.heap.size w W) => forward_any v r 8 W (hr.below hb) (by omega) (by omega))
  have hfs := fwdSmall_made r
  obtain ⟨hst, hlen, A, c, rfl, hN⟩ := hr
  generalize fwdM (mkMach r 8 false) = m at *
  have hz3 := hfs.n8; have hz1 := hfs.n1
  have hz4 := hfs.arcs
  obtain ⟨M, hC, hM, hT⟩ := fwd_counts hfs
  obtain ⟨B, hB, hBb⟩ := fwd_behind hfs
  obtain ⟨M2, hC2, hM2, hT2⟩ := rev_counts hfs hB hBb
  have htb := tot_behind (by omega) hC hB
  have hrv := rev_valid hfs.v (by omega) (by omega)
  have hrl := rev_len m
  have PA := Lib.hid (fun W u (h : MachAt W u m) => Paths_any u m W h hfs.v 0 hfs.s0 M hC (fun q hq => by have := hM q hq; omega) (by omega) (fun S hS => fwd_not_stuck hfs.f hS))
  have PB := Lib.hid (fun W u (h : MachAt W u (revM m)) => Paths_any u (revM m) W h hrv 0 rfl M2 hC2 (fun q hq => by have := hM2 q hq; omega) (by rw [hT2, ← htb]; omega) (fun S hS => rev_not_stuck hfs S hS))
  rw [hT2, ← htb] at PB
  have HV := Lib.hid hfs.v; have HRL := Lib.hid hrl
  have hz5 : tot m M ≤ 1000000000 := by omega
  generalize tot m M = T at *
  clear hN hst hlen hfs hC hM hB hBb hC2 hM2 hT2 htb hrv hrl
  go_enter Try.func3, Try.ntmps3
  go_wp2_with fail
  refine (HFD.out _ (by repeat' (first | exact Below.refl _ _ | assumption | refine Below.drew ?_ | refine Below.alloc ?_ (by first | omega | (simp; done) | (simp; omega)) _ | refine Below.setCell ?_ (by first | omega | (simp; done) | (simp; omega)) _))).mono ?_; rintro e w1 ⟨mv, rfl, o1, r1⟩
  obtain ⟨A1, c1, rfl, s1⟩ := own_open o1
  have b1 : Below w.heap.size w w1 := ((Below.refl _ _).alloc (Nat.le_refl _) _).trans (r1.mono (by simp))
  have X1 := Lib.hid (MBox.new (c := c1) s1)
  have b1a := b1.alloc b1.size (.cells #[.int .i64 m.start, .slice A1 m.states.length c1] 27)
  clear o1 r1 HFD s1
  go_wp2_with fail
  refine (Reverse_any _ m _ X1.out.mach HV.out (by omega) (by omega)).mono ?_; rintro e w2 ⟨mv2, rfl, o2, r2⟩
  obtain ⟨A2, c2, rfl, s2⟩ := own_open o2
  have b2 : Below w.heap.size w w2 := b1a.trans (r2.mono b1a.size)
  have BX : Below w2.heap.size w2 (w2.alloc (.cells #[.int .i64 (revM m).start, .slice A2 (revM m).states.length c2] 27)) := (Below.refl _ _).alloc (Nat.le_refl _) _
  have X2 := Lib.hid ((X1.out.step r2).step BX)
  have Y2 := Lib.hid (MBox.new (c := c2) s2)
  have b2a := b2.trans (BX.mono b2.size)
  have k2 := (X1.out.step r2).blk.cell; have l2 := (X1.out.step r2).blk.lt
  clear r2 o2 s2 BX X1 b1a
  go_wp2_with fail
  clear k2 l2
  generalize w2.alloc (.cells #[.int .i64 (revM m).start, .slice A2 (revM m).states.length c2] 27) = w3 at *
  refine (PA.out _ _ X2.out.mach).mono ?_; rintro e w4 ⟨rfl, r4⟩
  have b4 : Below w.heap.size w w4 := b2a.trans (r4.mono b2a.size)
  have X4 := Lib.hid (X2.out.step r4)
  have Y4 := Lib.hid (Y2.out.step r4)
  have k4 := Y4.out.blk.cell; have l4 := Y4.out.blk.lt
  clear r4 X2 Y2 b2a
  go_wp2_with fail
  clear k4 l4
  refine (PB.out _ _ Y4.out.mach).mono ?_; rintro e w5 ⟨rfl, r5⟩
  have b5 : Below w.heap.size w w5 := b4.trans (r5.mono b4.size)
  have X5 := Lib.hid (X4.out.step r5)
  have Y5 := Lib.hid (Y4.out.step r5)
  have k5 := X5.out.blk.cell; have l5 := X5.out.blk.lt
  have k6 := Y5.out.blk.cell; have l6 := Y5.out.blk.lt
  rw [HRL.out] at k6
  generalize hn : m.states.length = n at *
  have e1 : ((n + 1 : Nat) : Int) = (n : Int) + 1 := by omega
  have HN := Lib.hid hn
  clear hn X4 Y4 r5 HRL
  go_wp2_with fail
  go_ret
  exact ⟨rfl, b5⟩
end reversePaths
end Go.Proofs.Ytonjbchjfhknlaa
