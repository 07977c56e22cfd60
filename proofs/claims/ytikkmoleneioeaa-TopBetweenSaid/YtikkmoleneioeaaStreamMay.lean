/- stream.may: a run of a machine. -/
import Derived.Test.YtikkmoleneioeaaStreamRun
namespace Go.Proofs.Ytikkmoleneioeaa
open Go.RowKit

theorem bad_ok (a : Int) (w : World) (h : 1 ≤ a ∧ a ≤ 1000) : Calls Try.prog 47 #[.int .i64 a] w fun e w' => e = .returned (.bool false) ∧ w = w' := by
  have h1 : ¬ a < 1 := by omega
  have h2 : ¬ 1000 < a := by omega
  go_enter Try.func47, Try.ntmps47
  go_wp2
  go_ret
  exact ⟨rfl, rfl⟩
set_option maxRecDepth 100000 in
set_option maxHeartbeats 1000000 in
theorem index_ints (A : Option Addr) (c n : Nat) (l : List Int) (w : World) (hn : l.length = n) (h : Rd w A n 1 (icells l)) (hl : n ≤ 1000000) (hg : GoodW l) :
    Calls Try.prog 65 #[.slice A n c, .func (.func 47) #[] #[]] w fun e w' => e = .returned (.int .i64 (-1)) ∧ w = w' := by
  have HC := Lib.hid (rdi_cell h)
  have HG := Lib.hid hg
  have rd := h.rdy
  have HN := Lib.hid hn
  clear h hg hn
  go_enter Try.func65, Try.ntmps65
  go_wp2
  go_loop [8] (fun i => ∃ k : Nat, k ≤ n ∧ i = .int .i64 k) (fun i => n - (intOf i).toNat)
  case atStart => exact ⟨0, by omega, rfl⟩
  case round =>
    obtain ⟨k, hk, rfl⟩ := hrel
    by_cases hln : k < n
    · have hlt : k < l.length := by have := HN.out; omega
      have hcell := HC.out k hlt
      have hv := HG.out _ (List.getElem_mem hlt)
      have q1 : (0 : Int) ≤ ↑k := by omega
      have q2 : (↑k : Int) < ↑n := by omega
      generalize l[k] = a at *
      have HVV := Lib.hid hv
      clear hv
      go_wp2_with (refine (bad_ok a _ HVV.out).mono ?_; rintro e w2 ⟨rfl, rfl⟩)
      go_round
      case rel => exact ⟨k + 1, by omega, by go_num⟩
      case measure => simp [intOf]; omega
    · have q2 : ¬ (↑k : Int) < ↑n := by omega
      go_wp2
      go_ret
      exact ⟨rfl, rfl⟩
theorem contains_ints (A : Option Addr) (c n : Nat) (l : List Int) (w : World) (hn : l.length = n) (h : Rd w A n 1 (icells l)) (hl : n ≤ 1000000) (hg : GoodW l) :
    Calls Try.prog 46 #[.slice A n c, .func (.func 47) #[] #[]] w fun e w' => e = .returned (.bool false) ∧ w = w' := by
  have I := Lib.hid (index_ints A c n l w hn h hl hg)
  clear h hg hn
  go_enter Try.func46, Try.ntmps46
  go_wp2_with fail
  refine I.out.mono ?_; rintro e w2 ⟨rfl, rfl⟩
  go_wp2_with fail
  go_ret
  exact ⟨rfl, rfl⟩
/-- marks that a run may have -/
structure MayL (n : Nat) (l : List (Nat × KeyL)) : Prop where
  up : ∀ i (h : i + 1 < l.length), l[i].1 < l[i + 1].1
  ok : ∀ x ∈ l, x.1 < n ∧ GoodW x.2.out ∧ (0 ≤ x.2.c ∧ x.2.c ≤ 1000000000) ∧ x.2.out.length ≤ 800
theorem marksL_up (L : TabK) (n : Nat) : ∀ i (h : i + 1 < (marksL L n).length), (marksL L n)[i].1 < (marksL L n)[i + 1].1 := by
  intro i h
  have hp : (hasL L n).Pairwise (· < ·) := by unfold hasL; exact (List.pairwise_lt_range).filter _
  have hl : (marksL L n).length = (hasL L n).length := by simp [marksL]
  have := List.pairwise_iff_getElem.1 hp i (i + 1) (by omega) (by omega) (by omega)
  simpa [marksL] using this
set_option maxRecDepth 100000 in
set_option maxHeartbeats 4000000 in
theorem may_ok (st : Int) (Am A : Option Addr) (n cm c : Nat) (l : List (Nat × KeyL)) (fed : Int) (w : World) {Z : Nat → Prop} (h : MarksAt w Z A l) (hm : MayL n l) (hf : 0 ≤ fed ∧ fed ≤ 12) (_hn : n ≤ 60) (hll : l.length ≤ 60) :
    Calls Try.prog 27 #[.agg #[.int .i64 st, .slice Am n cm], .agg #[.int .i64 fed, .slice A l.length c]] w fun e w' => e = .returned (.bool true) ∧ Below w.heap.size w w' := by
  have HM := Lib.hid h; have HY := Lib.hid hm
  have rd := h.rdy
  have f1 : ¬ fed < 0 := by omega
  have f2 : ¬ 12 < fed := by omega
  have b1 : Below w.heap.size w ((w.alloc (.cells #[.int .i64 st, .slice Am n cm] 28)).alloc (.cells #[.int .i64 fed, .slice A l.length c] 34)) := (by repeat' (first | exact Below.refl _ _ | assumption | refine Below.drew ?_ | refine Below.alloc ?_ (by first | omega | (simp; done) | (simp; omega)) _ | refine Below.setCell ?_ (by first | omega | (simp; done) | (simp; omega)) _))
  have P0 : Blk ((w.alloc (.cells #[.int .i64 st, .slice Am n cm] 28)).alloc (.cells #[.int .i64 fed, .slice A l.length c] 34)) w.heap.size #[.int .i64 st, .slice Am n cm] 28 := (Blk.new _ _ _).alloc _
  have B1 := Lib.hid b1; have HP := Lib.hid P0
  clear h hm b1 P0
  go_enter Try.func27, Try.ntmps27
  go_wp2_with fail
  generalize (w.alloc (.cells #[.int .i64 st, .slice Am n cm] 28)).alloc (.cells #[.int .i64 fed, .slice A l.length c] 34) = w1 at *
  go_loopw [5, 19] (fun lv iv wr => ∃ (k : Nat) (z : Int), k ≤ l.length ∧ iv = .int .i64 k ∧ lv = .int .i64 z ∧ (∀ h : k < l.length, z < (l[k].1 : Int)) ∧ Below w1.heap.size w1 wr) (fun _ iv _ => l.length - (intOf iv).toNat)
  case atStart => exact ⟨0, -1, by omega, rfl, rfl, fun h => by omega, Below.refl _ _⟩
  case round =>
    obtain ⟨k, z, hk, rfl, rfl, hz, bel⟩ := hrel
    have i0 : (0 : Int) ≤ ↑k := by omega
    have hbw := B1.out.trans (bel.mono B1.out.size)
    have HBW := Lib.hid hbw
    by_cases hlt : k < l.length
    · have i1 : (↑k : Int) < ↑l.length := by omega
      have hMr := HM.out.below hbw
      have d0 := hMr.c0 k hlt; have d1 := hMr.c1 k hlt
      obtain ⟨A2, c2, d2, hr, -⟩ := hMr.c2 k hlt
      have hok := HY.out.ok _ (List.getElem_mem hlt)
      have hz1 := hz hlt
      have HUP : Hid (∀ h : k + 1 < l.length, (l[k].1 : Int) < (l[k + 1].1 : Int)) := Lib.hid (fun h => by have := HY.out.up k h; omega)
      generalize l[k] = x at *
      obtain ⟨q, kc, ko⟩ := x
      simp only at d0 d1 d2 hr hok hz1 HUP
      obtain ⟨hq, hg, ⟨hc0, hc1⟩, hlen⟩ := hok
      have lA := World.block_lt_of_cell? _ _ d0
      obtain ⟨wo, rfl⟩ : ∃ wo : World, wo = wr := ⟨_, rfl⟩
      have CT := Lib.hid (contains_ints A2 c2 ko.length ko (wo.alloc (.cells #[.int .i64 (q : Int), .int .i64 kc, .slice A2 ko.length c2] 71)) rfl (hr.below ((Below.refl _ _).alloc (Nat.le_refl _) _) rfl) (by omega) hg)
      have m1' := ((HP.out.step bel).alloc (.cells #[.int .i64 (q : Int), .int .i64 kc, .slice A2 ko.length c2] 71)).cell 1
      have ml := (HP.out.step bel).lt
      simp only [List.getElem?_toArray, List.getElem?_cons_succ, List.getElem?_cons_zero] at m1'
      have j1 : ¬ (q : Int) ≤ z := by omega
      have j2 : ¬ (n : Int) ≤ (q : Int) := by omega
      have j3 : ¬ kc < 0 := by omega
      have j4 : ¬ 1000000000 < kc := by omega
      have j5 : ¬ 800 < (ko.length : Int) := by omega
      clear hMr hr hg hz hz1 hbw
      generalize ko.length = nk at *
      go_wp2_with fail
      refine CT.out.mono ?_; rintro e w2 ⟨rfl, rfl⟩
      go_wp2_with fail
      go_roundw
      case rel => exact ⟨k + 1, (q : Int), by omega, by go_num, rfl, HUP.out, bel.alloc bel.size _⟩
      case measure => simp [intOf]; omega
    · have i1 : ¬ (↑k : Int) < ↑l.length := by omega
      clear hbw
      go_wp2_with fail
      go_ret
      exact ⟨rfl, HBW.out⟩
end Go.Proofs.Ytikkmoleneioeaa
