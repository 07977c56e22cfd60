/- tropicakeep.sameRun at two runs of the same marks. -/
import Derived.Test.YtikkmoleneioeaaStreamUse
import Derived.Test.YtikkmoleneioeaaSameInts
namespace Go.Proofs.Ytikkmoleneioeaa
open Go.RowKit

set_option maxRecDepth 100000 in
set_option maxHeartbeats 4000000 in
theorem sameRun_any (A B : Option Addr) (c d : Nat) (l : List (Nat × KeyL)) (f : Int) (Z Y : Nat → Prop) (w : World) (h : MarksAt w Z A l) (h' : MarksAt w Y B l) (hl : l.length ≤ 1000) (ho : ∀ x ∈ l, x.2.out.length ≤ 1000) :
    Calls Try.prog 13 #[.agg #[.int .i64 f, .slice A l.length c], .agg #[.int .i64 f, .slice B l.length d]] w fun e w' => e = .returned (.bool true) ∧ Below w.heap.size w w' := by
  have H1 := Lib.hid h; have H2 := Lib.hid h'
  have rA := h.rdy; have rB := h'.rdy
  have HO := Lib.hid ho
  have b1 : Below w.heap.size w ((w.alloc (.cells #[.int .i64 f, .slice A l.length c] 34)).alloc (.cells #[.int .i64 f, .slice B l.length d] 34)) := (by repeat' (first | exact Below.refl _ _ | assumption | refine Below.drew ?_ | refine Below.alloc ?_ (by first | omega | (simp; done) | (simp; omega)) _ | refine Below.setCell ?_ (by first | omega | (simp; done) | (simp; omega)) _))
  have P0 : Blk ((w.alloc (.cells #[.int .i64 f, .slice A l.length c] 34)).alloc (.cells #[.int .i64 f, .slice B l.length d] 34)) w.heap.size #[.int .i64 f, .slice A l.length c] 34 := (Blk.new _ _ _).alloc _
  have P1 : Blk ((w.alloc (.cells #[.int .i64 f, .slice A l.length c] 34)).alloc (.cells #[.int .i64 f, .slice B l.length d] 34)) (w.heap.size + 1) #[.int .i64 f, .slice B l.length d] 34 := Blk.new' (by simp)
  have B1 := Lib.hid b1; have HP0 := Lib.hid P0; have HP1 := Lib.hid P1
  clear h h' b1 P0 P1 ho
  go_enter Try.func13, Try.ntmps13
  go_wp2_with fail
  generalize (w.alloc (.cells #[.int .i64 f, .slice A l.length c] 34)).alloc (.cells #[.int .i64 f, .slice B l.length d] 34) = w1 at *
  go_loopw [5] (fun iv wr => ∃ k : Nat, k ≤ l.length ∧ iv = .int .i64 k ∧ Below w1.heap.size w1 wr) (fun iv _ => l.length - (intOf iv).toNat)
  case atStart => exact ⟨0, by omega, rfl, Below.refl _ _⟩
  case round =>
    obtain ⟨k, hk, rfl, bel⟩ := hrel
    have i0 : (0 : Int) ≤ ↑k := by omega
    have hbw := B1.out.trans (bel.mono B1.out.size)
    have HBW := Lib.hid hbw
    have p0 := (HP0.out.step bel).cell 1; have p1 := (HP1.out.step bel).cell 1
    have pl0 := (HP0.out.step bel).lt; have pl1 := (HP1.out.step bel).lt
    simp only [List.getElem?_toArray, List.getElem?_cons_succ, List.getElem?_cons_zero] at p0 p1
    by_cases hlt : k < l.length
    · have i1 : (↑k : Int) < ↑l.length := by omega
      have hM := H1.out.below hbw; have hN := H2.out.below hbw
      have d0 := hM.c0 k hlt; have d1 := hM.c1 k hlt
      have e0 := hN.c0 k hlt; have e1 := hN.c1 k hlt
      obtain ⟨A2, c2, d2, hr, -⟩ := hM.c2 k hlt
      obtain ⟨B2, d2', e2, hs, -⟩ := hN.c2 k hlt
      have hok := HO.out _ (List.getElem_mem hlt)
      generalize l[k] = x at *
      obtain ⟨q, kc, ko⟩ := x
      simp only at d0 d1 d2 e0 e1 e2 hr hs hok
      have lA := World.block_lt_of_cell? _ _ d0; have lB := World.block_lt_of_cell? _ _ e0
      obtain ⟨wo, rfl⟩ : ∃ wo : World, wo = wr := ⟨_, rfl⟩
      have SI := Lib.hid (fun W (hb : Below wo.heap.size wo W) => sameInts_any A2 B2 c2 d2' ko ko W (hr.below hb rfl) (hs.below hb rfl) hok)
      have hdd : decide (ko = ko) = true := by simp
      rw [hdd] at SI
      have bel2 := bel.alloc bel.size (.cells #[.int .i64 (q : Int), .int .i64 kc, .slice A2 ko.length c2] 71)
      have bel3 := Lib.hid (bel2.alloc bel2.size (.cells #[.int .i64 (q : Int), .int .i64 kc, .slice B2 ko.length d2'] 71))
      have S2 := Lib.hid (SI.out ((wo.alloc (.cells #[.int .i64 (q : Int), .int .i64 kc, .slice A2 ko.length c2] 71)).alloc (.cells #[.int .i64 (q : Int), .int .i64 kc, .slice B2 ko.length d2'] 71)) (((Below.refl _ _).alloc (Nat.le_refl _) _).alloc (by simp) _))
      clear hM hN hr hs hbw bel bel2 SI hdd
      generalize ko.length = nk at *
      go_wp2_with fail
      refine S2.out.mono ?_; rintro e w2 ⟨rfl, b2⟩
      have HB2 := Lib.hid (bel3.out.trans (b2.mono bel3.out.size))
      clear b2
      go_wp2_with fail
      go_roundw
      case rel => exact ⟨k + 1, by omega, by go_num, HB2.out⟩
      case measure => simp [intOf]; omega
    · obtain rfl : l.length = k := by omega
      have i1 : ¬ (↑l.length : Int) < ↑l.length := by omega
      clear hbw bel
      go_wp2_with fail
      go_ret
      exact ⟨rfl, HBW.out⟩
end Go.Proofs.Ytikkmoleneioeaa
