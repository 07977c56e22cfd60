/- The walk of LongestStands. -/
import Derived.Test.YteniblkmokpjjaaForward
import Derived.Test.YteniblkmokpjjaaPaths
import Derived.Test.YteniblkmokpjjaaLongest
import Derived.Test.YteniblkmokpjjaaLongFw
import Derived.Test.YteniblkmokpjjaaMBox
import Derived.Deep.QuietTactic
import Derived.BigQuiet
import Derived.IntWalk
namespace Go.Proofs.Yteniblkmokpjjaa
open Go.RowKit

namespace longestStands
set_option maxRecDepth 100000 in
set_option maxHeartbeats 8000000 in
theorem walk {w : World} (v : Value) (r : RawL) (hr : RawArg w v r) :
    Calls Try.prog 4 #[v] w fun e w' => e = .returned (.bool true) ∧ Below w.heap.size w w' := by
  have HFD := Lib.hid (fun W (hb : Below w.heap.size w W) => forward_any v r 8 W (hr.below hb) (by omega) (by omega))
  have hfs := fwdSmall_made r
  obtain ⟨hst, hlen, A, c, rfl, hN⟩ := hr
  generalize fwdM (mkMach r 8 false) = m at *
  have hz3 := hfs.n8; have hz1 := hfs.n1
  obtain ⟨M, hC, hM, hT⟩ := fwd_counts hfs
  have PA := Lib.hid (fun W u (h : MachAt W u m) => Paths_any u m W h hfs.v 0 hfs.s0 M hC (fun q hq => by have := hM q hq; omega) (by omega) (fun S hS => fwd_not_stuck hfs.f hS))
  have LA := Lib.hid (fun W u (h : MachAt W u m) => Longest_any u m W h hfs.v 0 hfs.s0 (fun S hS => fwd_not_stuck hfs.f hS))
  have HF := Lib.hid (fun b h => fwd_far hfs hC (b := b) h)
  have HN := Lib.hid (fun h => fwd_none hfs hC h)
  have hz5 : tot m M ≤ 1000000000 := by omega
  generalize tot m M = T at *
  clear hN hst hlen hfs hC hM
  go_enter Try.func4, Try.ntmps4
  go_wp2_with fail
  refine (HFD.out _ (by repeat' (first | exact Below.refl _ _ | assumption | refine Below.drew ?_ | refine Below.alloc ?_ (by first | omega | (simp; done) | (simp; omega)) _ | refine Below.setCell ?_ (by first | omega | (simp; done) | (simp; omega)) _))).mono ?_; rintro e w1 ⟨mv, rfl, o1, r1⟩
  obtain ⟨A1, c1, rfl, s1⟩ := own_open o1
  have b1 : Below w.heap.size w w1 := ((Below.refl _ _).alloc (Nat.le_refl _) _).trans (r1.mono (by simp))
  have X1 := Lib.hid (MBox.new (c := c1) s1)
  have b1a := b1.alloc b1.size (.cells #[.int .i64 m.start, .slice A1 m.states.length c1] 27)
  clear o1 r1 HFD s1
  go_wp2_with fail
  generalize w1.alloc (.cells #[.int .i64 m.start, .slice A1 m.states.length c1] 27) = w3 at *
  refine (PA.out _ _ X1.out.mach).mono ?_; rintro e w4 ⟨rfl, r4⟩
  have b4 : Below w.heap.size w w4 := b1a.trans (r4.mono b1a.size)
  have X4 := Lib.hid (X1.out.step r4)
  have k4 := X4.out.blk.cell; have l4 := X4.out.blk.lt
  clear r4 X1 b1a
  go_wp2_with fail
  clear k4 l4
  refine (LA.out _ _ X4.out.mach).mono ?_; rintro e w5 ⟨hcase, r5⟩
  have b5 : Below w.heap.size w w5 := b4.trans (r5.mono b4.size)
  have X5 := Lib.hid (X4.out.step r5)
  have k5 := X5.out.blk.cell; have l5 := X5.out.blk.lt
  clear X4 r5
  rcases hcase with ⟨b, rfl, hF, -⟩ | ⟨rfl, hF⟩
  · obtain ⟨h1, h2, h3⟩ := HF.out b hF
    have e1 : ((T : Int) == 0) = false := by simp; omega
    by_cases hb : 0 < b
    · clear hF h3 HN HF
      go_wp2_with fail
      go_ret
      exact ⟨rfl, b5⟩
    · have h4 := h3.resolve_left hb
      obtain rfl : b = 0 := by omega
      subst h4
      clear hF h3 HN HF
      go_wp2_with fail
      go_ret
      exact ⟨rfl, b5⟩
  · have h1 := HN.out hF
    subst h1
    clear hF HN HF
    go_wp2_with fail
    go_ret
    exact ⟨rfl, b5⟩
end longestStands
end Go.Proofs.Yteniblkmokpjjaa
