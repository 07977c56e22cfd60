/- The walk of LongestAdds. -/
import Derived.Test.YteniblkmokpjjaaForward
import Derived.Test.YteniblkmokpjjaaLongest
import Derived.Test.YteniblkmokpjjaaAddPlain
import Derived.Test.YteniblkmokpjjaaMBox
import Derived.IntWalk
namespace Go.Proofs.Yteniblkmokpjjaa
open Go.RowKit

theorem fwd6 (r : RawL) : FwdSmall (fwdM (mkMach r 6 false)) ∧ (fwdM (mkMach r 6 false)).states.length ≤ 6 := by
  refine ⟨fwdSmall_madeK r 6 (by omega) (by omega), ?_⟩
  have h1 := mkMach_len r 6 false (by omega)
  have h2 : mkN r 6 ≤ 6 ∧ 1 ≤ mkN r 6 := by unfold mkN; omega
  rw [fwdM_len]; omega
namespace longestAdds
set_option maxRecDepth 100000 in
set_option maxHeartbeats 8000000 in
theorem walk {w : World} (v1 : Value) (r1 : RawL) (hr1 : RawArg w v1 r1) (v2 : Value) (r2 : RawL) (hr2 : RawArg w v2 r2) :
    Calls Try.prog 5 #[v1, v2] w fun e w' => e = .returned (.bool true) ∧ Below w.heap.size w w' := by
  have HMA := Lib.hid (fun W (hb : Below w.heap.size w W) => forward_any v1 r1 6 W (hr1.below hb) (by omega) (by omega))
  have HMB := Lib.hid (fun W (hb : Below w.heap.size w W) => forward_any v2 r2 6 W (hr2.below hb) (by omega) (by omega))
  obtain ⟨ha, ha6⟩ := fwd6 r1
  obtain ⟨hb, hb6⟩ := fwd6 r2
  obtain ⟨-, -, A, c, rfl, -⟩ := hr1
  obtain ⟨-, -, B, d, rfl, -⟩ := hr2
  generalize fwdM (mkMach r1 6 false) = a at *
  generalize fwdM (mkMach r2 6 false) = b at *
  have hna := ha.n1; have hnb := hb.n1
  have hca := ha.arcs; have hcb := hb.arcs
  have HVA := Lib.hid ha.v; have HVB := Lib.hid hb.v
  have hcv := concat_valid ha.v hb.v (by omega) (by omega)
  have HVU := Lib.hid hcv
  have LA := Lib.hid (fun W u (h : MachAt W u a) => Longest_any u a W h ha.v 0 ha.s0 (fun S hS => fwd_not_stuck ha.f hS))
  have LB := Lib.hid (fun W u (h : MachAt W u b) => Longest_any u b W h hb.v 0 hb.s0 (fun S hS => fwd_not_stuck hb.f hS))
  have LC := Lib.hid (fun W u (h : MachAt W u (concatM a b)) => Longest_any u (concatM a b) W h hcv 0 ha.s0 (concat_stuck ha hb))
  have HF := Lib.hid (fun n k c h1 h2 h3 => concat_farthest ha.v hb.v hb.s0 hna hnb (n := n) (k := k) (c := c) h1 h2 h3)
  have HN := Lib.hid (fun c h h3 => concat_none ha.v hb.v hb.s0 hna hnb (c := c) h h3)
  have HS := Lib.hid (fun n k h1 h2 h3 => concat_some ha.v hb.v hb.s0 hna hnb (n := n) (k := k) h1 h2 h3)
  have hul : ((concatM a b).states.length : Int) = a.states.length + b.states.length := by rw [concat_len]; simp
  clear ha hb hcv hca hcb
  generalize hum : concatM a b = u at *
  have HUM := Lib.hid hum; clear hum
  go_enter Try.func5, Try.ntmps5
  go_wp2_with fail
  refine (HMA.out _ (by repeat' (first | exact Below.refl _ _ | assumption | refine Below.drew ?_ | refine Below.alloc ?_ (by first | omega | (simp; done) | (simp; omega)) _ | refine Below.setCell ?_ (by first | omega | (simp; done) | (simp; omega)) _))).mono ?_; rintro e w1 ⟨mv, rfl, o1, q1⟩
  obtain ⟨A3, c3, rfl, s1⟩ := own_open o1
  have b1 : Below w.heap.size w w1 := ((by repeat' (first | exact Below.refl _ _ | assumption | refine Below.drew ?_ | refine Below.alloc ?_ (by first | omega | (simp; done) | (simp; omega)) _ | refine Below.setCell ?_ (by first | omega | (simp; done) | (simp; omega)) _)) : Below w.heap.size w _).trans (q1.mono (by simp; omega))
  have hz : Hid (Blk w1 (w.heap.size + 1) #[.int .i64 r2.start, .slice B r2.nodes.length d] 24) := Lib.hid (Blk.step (Blk.new' (by simp)) q1)
  have X1 := Lib.hid (MBox.new (c := c3) s1)
  have b1a := b1.alloc b1.size (.cells #[.int .i64 a.start, .slice A3 a.states.length c3] 27)
  have kz := hz.out.cell; have lz := hz.out.lt
  clear o1 q1 HMA s1
  go_wp2_with fail
  clear kz lz
  refine (HMB.out _ b1a).mono ?_; rintro e w2 ⟨mv2, rfl, o2, q2⟩
  obtain ⟨A4, c4, rfl, s2⟩ := own_open o2
  have b2 : Below w.heap.size w w2 := b1a.trans (q2.mono b1a.size)
  have Y2 := Lib.hid (MBox.new (c := c4) s2)
  have X2 := Lib.hid ((X1.out.step q2).alloc (.cells #[.int .i64 b.start, .slice A4 b.states.length c4] 27))
  have b2a := b2.alloc b2.size (.cells #[.int .i64 b.start, .slice A4 b.states.length c4] 27)
  have kx := (X1.out.step q2).blk.cell; have lx2 := (X1.out.step q2).blk.lt
  clear o2 q2 HMB s2 X1 b1a b1 hz
  go_wp2_with fail
  clear kx lx2
  refine (Concat_any _ _ a b _ X2.out.mach Y2.out.mach HVA.out HVB.out (by rw [HUM.out]; exact HVU.out)).mono ?_; rintro e w3 ⟨mv3, rfl, o3, q3⟩
  rw [HUM.out] at o3
  obtain ⟨A5, c5, rfl, s3⟩ := own_open o3
  have b3 : Below w.heap.size w w3 := b2a.trans (q3.mono b2a.size)
  have Z3 := Lib.hid (MBox.new (c := c5) s3)
  have X3 := Lib.hid ((X2.out.step q3).alloc (.cells #[.int .i64 u.start, .slice A5 u.states.length c5] 27))
  have Y3 := Lib.hid ((Y2.out.step q3).alloc (.cells #[.int .i64 u.start, .slice A5 u.states.length c5] 27))
  have b3a := b3.alloc b3.size (.cells #[.int .i64 u.start, .slice A5 u.states.length c5] 27)
  have k3 := (X2.out.step q3).blk.cell; have l3 := (X2.out.step q3).blk.lt
  clear o3 q3 s3 X2 Y2 b2 b2a
  go_wp2_with fail
  clear k3 l3
  generalize w3.alloc (.cells #[.int .i64 u.start, .slice A5 u.states.length c5] 27) = w4 at *
  refine (LA.out _ _ X3.out.mach).mono ?_; rintro e w5 ⟨hca, q5⟩
  have b5 : Below w.heap.size w w5 := b3a.trans (q5.mono b3a.size)
  have X5 := Lib.hid (X3.out.step q5); have Y5 := Lib.hid (Y3.out.step q5); have Z5 := Lib.hid (Z3.out.step q5)
  have k5 := Y5.out.blk.cell; have l5 := Y5.out.blk.lt
  clear q5 X3 Y3 Z3 b3a b3
  obtain ⟨n, f, rfl, hn0, hn1, hf⟩ : ∃ n f : Int, e = .returned (.tuple #[.int .i64 n, .int .i64 f]) ∧ 0 ≤ n ∧ n ≤ 60 ∧ ((f = 0 ∧ Farthest a 0 n.toNat) ∨ (f = 12 ∧ ∀ q k, finB a q = true → ¬ Way a 0 q k)) := by
    rcases hca with ⟨n, rfl, h1, h2⟩ | ⟨rfl, h1⟩
    · exact ⟨n, 0, rfl, by omega, by omega, .inl ⟨rfl, by simpa using h1⟩⟩
    · exact ⟨0, 12, rfl, by omega, by omega, .inr ⟨rfl, h1⟩⟩
  have HFA := Lib.hid hf; clear hf hca
  go_wp2_with fail
  clear k5 l5
  refine (LB.out _ _ Y5.out.mach).mono ?_; rintro e w6 ⟨hcb, q6⟩
  have b6 : Below w.heap.size w w6 := b5.trans (q6.mono b5.size)
  have X6 := Lib.hid (X5.out.step q6); have Y6 := Lib.hid (Y5.out.step q6); have Z6 := Lib.hid (Z5.out.step q6)
  have k6 := Z6.out.blk.cell; have l6 := Z6.out.blk.lt
  clear q6 X5 Y5 Z5 b5
  obtain ⟨k, g, rfl, hk0, hk1, hg⟩ : ∃ n f : Int, e = .returned (.tuple #[.int .i64 n, .int .i64 f]) ∧ 0 ≤ n ∧ n ≤ 60 ∧ ((f = 0 ∧ Farthest b 0 n.toNat) ∨ (f = 12 ∧ ∀ q k, finB b q = true → ¬ Way b 0 q k)) := by
    rcases hcb with ⟨n, rfl, h1, h2⟩ | ⟨rfl, h1⟩
    · exact ⟨n, 0, rfl, by omega, by omega, .inl ⟨rfl, by simpa using h1⟩⟩
    · exact ⟨0, 12, rfl, by omega, by omega, .inr ⟨rfl, h1⟩⟩
  have HGB := Lib.hid hg; clear hg hcb
  go_wp2_with fail
  clear k6 l6
  refine (LC.out _ _ Z6.out.mach).mono ?_; rintro e w7 ⟨hcc, q7⟩
  have b7 : Below w.heap.size w w7 := b6.trans (q7.mono b6.size)
  have X7 := Lib.hid (X6.out.step q7); have Y7 := Lib.hid (Y6.out.step q7); have Z7 := Lib.hid (Z6.out.step q7)
  have k7 := X7.out.blk.cell; have l7 := X7.out.blk.lt; have k8 := Y7.out.blk.cell; have l8 := Y7.out.blk.lt; have k9 := Z7.out.blk.cell; have l9 := Z7.out.blk.lt
  clear q7 X6 Y6 Z6 b6
  have hfg : (f = 0 ∧ g = 0 ∧ e = .returned (.tuple #[.int .i64 (n + k + 1), .int .i64 0])) ∨ (((f = 12 ∧ (g = 0 ∨ g = 12)) ∨ (f = 0 ∧ g = 12)) ∧ e = .returned (.tuple #[.int .i64 0, .int .i64 12])) := by
    rcases HFA.out with ⟨rfl, h1⟩ | ⟨rfl, h1⟩ <;> rcases HGB.out with ⟨rfl, h2⟩ | ⟨rfl, h2⟩
    · left
      rcases hcc with ⟨c, rfl, h3, -⟩ | ⟨rfl, h3⟩
      · have := HF.out _ _ _ h1 h2 h3
        have e : ((c : Nat) : Int) = n + k + 1 := by omega
        rw [e]; exact ⟨rfl, rfl, rfl⟩
      · exact (HS.out _ _ h1 h2 h3).elim
    · right
      rcases hcc with ⟨c, rfl, h3, -⟩ | ⟨rfl, h3⟩
      · exact (HN.out _ (.inr h2) h3).elim
      · exact ⟨.inr ⟨rfl, rfl⟩, rfl⟩
    · right
      rcases hcc with ⟨c, rfl, h3, -⟩ | ⟨rfl, h3⟩
      · exact (HN.out _ (.inl h1) h3).elim
      · exact ⟨.inl ⟨rfl, .inl rfl⟩, rfl⟩
    · right
      rcases hcc with ⟨c, rfl, h3, -⟩ | ⟨rfl, h3⟩
      · exact (HN.out _ (.inr h2) h3).elim
      · exact ⟨.inl ⟨rfl, .inr rfl⟩, rfl⟩
  clear hcc HFA HGB HF HN HS
  rcases hfg with ⟨rfl, rfl, rfl⟩ | ⟨⟨rfl, rfl | rfl⟩ | ⟨rfl, rfl⟩, rfl⟩
  · go_wp2_with fail
    go_ret
    exact ⟨rfl, b7⟩
  · go_wp2_with fail
    go_ret
    exact ⟨rfl, b7⟩
  · go_wp2_with fail
    go_ret
    exact ⟨rfl, b7⟩
  · go_wp2_with fail
    go_ret
    exact ⟨rfl, b7⟩
end longestAdds
end Go.Proofs.Yteniblkmokpjjaa
