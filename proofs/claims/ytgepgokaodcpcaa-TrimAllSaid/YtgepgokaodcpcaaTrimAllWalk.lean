/- The walk of TrimAll. -/
import Derived.Test.YtgepgokaodcpcaaTrim
import Derived.Test.YtgepgokaodcpcaaTrimLaw
import Derived.Test.YtgepgokaodcpcaaMBox
import Derived.Test.YtgepgokaodcpcaaAlike
import Derived.LoopTactic
namespace Go.Proofs.Ytgepgokaodcpcaa
open Go.RowKit

namespace trimAll
set_option maxRecDepth 100000 in
set_option maxHeartbeats 8000000 in
theorem walk {w : World} (v : Value) (r : RawL) (hr : RawArg w v r) :
    Calls Try.prog 13 #[v] w fun e w' => e = .returned (.bool true) ∧ Below w.heap.size w w' := by
  have hm : Valid (mkMach r 8 false) := valid_made r 8 false (by omega) (by omega)
  have HMD := Lib.hid (fun W hb => made_any v r 8 false W (hr.below hb) (by omega) (by omega))
  obtain ⟨hst, hlen, A, c, rfl, hN⟩ := hr
  generalize mkMach r 8 false = m at *
  have ht := trim_valid hm
  have hall := fun i hi => trim_all hm (i := i) hi
  have htt := trim_trim hm
  have hts := trim_start hm
  have htl := trim_len_le (ss := m.states) (keepOf_len m)
  have htl2 : (trimM m).states.length ≤ m.states.length := htl
  have hsz := ht.size
  have HV := Lib.hid hm; have HT := Lib.hid ht; have HALL := Lib.hid hall; have HTT := Lib.hid htt; have HTS := Lib.hid hts
  clear hN hst hlen hm ht hall htt hts htl
  go_enter Try.func13, Try.ntmps13
  go_wp2_with fail
  refine (HMD.out _ (by repeat' (first | exact Below.refl _ _ | assumption | refine Below.drew ?_ | refine Below.alloc ?_ (by first | omega | (simp; done) | (simp; omega)) _ | refine Below.setCell ?_ (by first | omega | (simp; done) | (simp; omega)) _))).mono ?_; rintro e w1 ⟨mv, rfl, o1, r1⟩
  obtain ⟨A1, c1, rfl, s1⟩ := own_open o1
  have b1 : Below w.heap.size w w1 := ((Below.refl _ _).alloc (Nat.le_refl _) _).trans (r1.mono (by simp))
  have X1 := Lib.hid (MBox.new (c := c1) s1)
  have b1a := b1.alloc b1.size (.cells #[.int .i64 m.start, .slice A1 m.states.length c1] 49)
  clear o1 r1 HMD s1
  go_wp2_with fail
  refine (Trim_any _ m _ X1.out.mach HV.out).mono ?_; rintro e w2 ⟨mv2, rfl, o2, r2⟩
  obtain ⟨A2, c2, rfl, s2⟩ := own_open o2
  generalize trimM m = t at *
  have b2 : Below w.heap.size w w2 := b1a.trans (r2.mono b1a.size)
  have X2 := Lib.hid ((X1.out.step r2).alloc (.cells #[.int .i64 t.start, .slice A2 t.states.length c2] 49))
  have Y2 := Lib.hid (MBox.new (c := c2) s2)
  have b2a := b2.alloc b2.size (.cells #[.int .i64 t.start, .slice A2 t.states.length c2] 49)
  clear o2 r2 s2 X1 b1a
  go_wp2_with fail
  refine (Ahead_any _ t _ Y2.out.mach HT.out).mono ?_; rintro e w3 ⟨sv3, rfl, ⟨⟨ba, sa, rfl, hA, -, hal, har⟩⟩, r3⟩
  have b3 : Below w.heap.size w w3 := b2a.trans (r3.mono b2a.size)
  have X3 := Lib.hid (X2.out.step r3)
  have Y3 := Lib.hid (Y2.out.step r3)
  have HA := Lib.hid hA; have HAR := Lib.hid har; have HAL := Lib.hid hal
  have k3 := Y3.out.blk.cell; have l3 := Y3.out.blk.lt
  clear r3 hA har hal X2 Y2 b2a
  go_wp2_with fail
  refine (Back_any _ t _ Y3.out.mach HT.out).mono ?_; rintro e w4 ⟨sv4, rfl, ⟨⟨bb, sb, rfl, hB, -, hbl, hbr⟩⟩, r4⟩
  have b4 : Below w.heap.size w w4 := b3.trans (r4.mono b3.size)
  have X4 := Lib.hid (X3.out.step r4)
  have Y4 := Lib.hid (Y3.out.step r4)
  have HA4 := Lib.hid (HA.out.step r4)
  have HB := Lib.hid hB; have HBR := Lib.hid hbr; have HBL := Lib.hid hbl
  have k4 := Y4.out.blk.cell; have l4 := Y4.out.blk.lt
  clear r4 hB hbr hbl X3 Y3 HA k3 l3
  go_wp2_with fail
  refine (Trim_any _ t _ Y4.out.mach HT.out).mono ?_; rintro e w5 ⟨mv5, rfl, o5, r5⟩
  rw [HTT.out] at o5
  obtain ⟨A5, c5, rfl, s5⟩ := own_open o5
  have b5 : Below w.heap.size w w5 := b4.trans (r5.mono b4.size)
  have BX : Below w5.heap.size w5 (w5.alloc (.cells #[.int .i64 t.start, .slice A5 t.states.length c5] 49)) := (Below.refl _ _).alloc (Nat.le_refl _) _
  have X5 := Lib.hid ((X4.out.step r5).step BX)
  have Y5 := Lib.hid ((Y4.out.step r5).step BX)
  have Z5 := Lib.hid (MBox.new (c := c5) s5)
  have HA5 := Lib.hid ((HA4.out.step r5).step BX)
  have HB5 := Lib.hid ((HB.out.step r5).step BX)
  have b5a := b5.trans (BX.mono b5.size)
  have k5 := (Y4.out.step r5).blk.cell; have l5 := (Y4.out.step r5).blk.lt; have k5x := (X4.out.step r5).blk.cell; have l5x := (X4.out.step r5).blk.lt
  clear r5 o5 s5 BX X4 Y4 HA4 HB k4 l4
  go_wp2_with fail
  refine (alike_yes _ _ t _ Y5.out.mach Z5.out.mach HT.out.size (valid_arcs_le HT.out)).mono ?_; rintro e w6 ⟨rfl, r6⟩
  have b6 : Below w.heap.size w w6 := b5a.trans (r6.mono b5a.size)
  have X6 := Lib.hid (X5.out.step r6)
  have Y6 := Lib.hid (Y5.out.step r6)
  have HA6 := Lib.hid (HA5.out.step r6)
  have HB6 := Lib.hid (HB5.out.step r6)
  have k6 := Y6.out.blk.cell; have l6 := Y6.out.blk.lt; have k6x := X6.out.blk.cell; have l6x := X6.out.blk.lt
  clear r6 X5 Y5 Z5 HA5 HB5 k5 l5 k5x l5x b5a
  go_wp2_with fail
  go_loop [12] (fun i => ∃ k : Nat, k ≤ t.states.length ∧ i = .int .i64 k) (fun i => t.states.length - (intOf i).toNat)
  case atStart => exact ⟨0, by omega, rfl⟩
  case round =>
    obtain ⟨k, hk, rfl⟩ := hrel
    by_cases hlt : k < t.states.length
    · have ka := HA6.out.cell k; have kb := HB6.out.cell k
      rw [bcells_get' _ _ (by rw [HAL.out]; exact hlt), (HAR.out k).2 (HALL.out k hlt).1] at ka
      rw [bcells_get' _ _ (by rw [HBL.out]; exact hlt), (HBR.out k).2 (HALL.out k hlt).2] at kb
      have la := HA6.out.lt; have lb := HB6.out.lt
      have i0 : (0 : Int) ≤ ↑k := by omega
      have i1 : (↑k : Int) < ↑t.states.length := by omega
      go_wp2_with fail
      go_round
      case rel => exact ⟨k + 1, by omega, by go_num⟩
      case measure => simp [intOf]; omega
    · have i1 : ¬ (↑k : Int) < ↑t.states.length := by omega
      have hdb : decide (t.start < 0) = ((t.states.length : Int) == 0) := by
        rw [Bool.eq_iff_iff]; simp only [decide_eq_true_eq, beq_iff_eq]; exact HTS.out.trans (by omega)
      go_wp2_with fail
      go_ret; exact ⟨rfl, b6⟩
end trimAll
end Go.Proofs.Ytgepgokaodcpcaa
