/- The walk of DistanceTurned. -/
import Derived.Test.YtkfhefefhnmljaaRevLaw
import Derived.Test.YtkfhefefhnmljaaMBox
import Derived.Deep.QuietTactic
import Derived.BigQuiet
import Derived.IntWalk
namespace Go.Proofs.Ytkfhefefhnmljaa
open Go.RowKit

theorem made_size (r : RawL) (k : Int) (full : Bool) (k1 : 1 ≤ k) : (mkMach r k full).states.length ≤ k.toNat ∧ arcsOf (mkMach r k full).states ≤ 4 * k.toNat ∧ 1 ≤ (mkMach r k full).states.length := by
  have h1 := mkMach_len r k full k1
  have h2 : mkN r k ≤ k ∧ 1 ≤ mkN r k := by unfold mkN; omega
  have h3 := sum_le4 _ (mk_arcs_small r k full)
  refine ⟨by omega, by omega, by omega⟩

namespace distanceTurned
set_option maxRecDepth 100000 in
set_option maxHeartbeats 8000000 in
theorem walk {w : World} (v : Value) (r : RawL) (hr : RawArg w v r) :
    Calls Try.prog 6 #[v] w fun e w' => e = .returned (.bool true) ∧ Below w.heap.size w w' := by
  have hm : Valid (mkMach r 8 false) := valid_made r 8 false (by omega) (by omega)
  have hsm : Small (mkMach r 8 false) := small_made r 8 false
  have hms := made_size r 8 false (by omega)
  have HMD := Lib.hid (fun W hb => made_any v r 8 false W (hr.below hb) (by omega) (by omega))
  obtain ⟨hst, hlen, A, c, rfl, hN⟩ := hr
  generalize mkMach r 8 false = m at *
  obtain ⟨hz1, hz2, -⟩ := hms
  have hz3 : m.states.length ≤ 8 := by simpa using hz1
  have hz4 : arcsOf m.states ≤ 32 := by simpa using hz2
  have hrv := rev_valid hm (by omega) (by omega)
  have hrl := rev_len m
  have HV := Lib.hid hm; have HSM := Lib.hid hsm; have HRV := Lib.hid hrv; have HRS := Lib.hid (rev_small hm hsm)
  have HRD := Lib.hid (fun q d d' => rev_dist hm hrv (q := q) (d := d) (d' := d'))
  clear hN hst hlen hm hsm hz1 hz2 hrv
  have HRL := Lib.hid hrl; clear hrl
  go_enter Try.func6, Try.ntmps6
  go_wp2_with fail
  refine (HMD.out _ (by repeat' (first | exact Below.refl _ _ | assumption | refine Below.drew ?_ | refine Below.alloc ?_ (by first | omega | (simp; done) | (simp; omega)) _ | refine Below.setCell ?_ (by first | omega | (simp; done) | (simp; omega)) _))).mono ?_; rintro e w1 ⟨mv, rfl, o1, r1⟩
  obtain ⟨A1, c1, rfl, s1⟩ := own_open o1
  have b1 : Below w.heap.size w w1 := ((Below.refl _ _).alloc (Nat.le_refl _) _).trans (r1.mono (by simp))
  have X1 := Lib.hid (MBox.new (c := c1) s1)
  have b1a := b1.alloc b1.size (.cells #[.int .i64 m.start, .slice A1 m.states.length c1] 27)
  clear o1 r1 HMD s1
  go_wp2_with fail
  refine (Reverse_any _ m _ X1.out.mach HV.out (by omega) (by omega)).mono ?_; rintro e w2 ⟨mv2, rfl, o2, r2⟩
  obtain ⟨A2, c2, rfl, s2⟩ := own_open o2
  have b2 : Below w.heap.size w w2 := b1a.trans (r2.mono b1a.size)
  have BX : Below w2.heap.size w2 (w2.alloc (.cells #[.int .i64 (revM m).start, .slice A2 (revM m).states.length c2] 27)) := (Below.refl _ _).alloc (Nat.le_refl _) _
  have X2 := Lib.hid ((X1.out.step r2).step BX)
  have Y2 := Lib.hid (MBox.new (c := c2) s2)
  have b2a := b2.trans (BX.mono b2.size)
  have k2 := (X1.out.step r2).blk.cell; have l2 := (X1.out.step r2).blk.lt
  clear r2 o2 s2 BX X1 b1a
  go_wp2_with fail
  clear k2 l2
  generalize w2.alloc (.cells #[.int .i64 (revM m).start, .slice A2 (revM m).states.length c2] 27) = w3 at *
  refine (Ends_any _ m _ X2.out.mach HV.out (ends_small HV.out HSM.out)).mono ?_; rintro e w4 ⟨sv4, rfl, ⟨⟨be, dE, rfl, hE, -, hel, hed⟩⟩, r4⟩
  have b4 : Below w.heap.size w w4 := b2a.trans (r4.mono b2a.size)
  have X4 := Lib.hid (X2.out.step r4)
  have Y4 := Lib.hid (Y2.out.step r4)
  have HE := Lib.hid hE; have HEL := Lib.hid hel; have HED := Lib.hid hed
  have k4 := Y4.out.blk.cell; have l4 := Y4.out.blk.lt
  clear r4 hE hel hed X2 Y2 b2a
  go_wp2_with fail
  clear k4 l4
  refine (From_any _ (revM m) _ Y4.out.mach HRV.out (from_small HRV.out HRS.out)).mono ?_; rintro e w5 ⟨sv5, rfl, ⟨⟨bf, dF, rfl, hF, -, hfl, hfd⟩⟩, r5⟩
  have b5 : Below w.heap.size w w5 := b4.trans (r5.mono b4.size)
  have X5 := Lib.hid (X4.out.step r5)
  have HE5 := Lib.hid (HE.out.step r5)
  rw [HRL.out] at hfl hfd
  have HF := Lib.hid hF; have HFL := Lib.hid hfl; have HFD := Lib.hid hfd
  rw [HRL.out]
  clear r5 hF hfl hfd X4 Y4 HE
  have k5 := X5.out.blk.cell; have l5 := X5.out.blk.lt
  generalize hn : m.states.length = n at *
  have HN := Lib.hid hn; clear hn
  have e1 : ((n + 1 : Nat) : Int) = (n : Int) + 1 := by omega
  go_wp2_with fail
  clear e1 k5
  obtain ⟨w6, rfl⟩ : ∃ w6 : World, w6 = w5 := ⟨_, rfl⟩
  go_loopw [10] (fun i wr => ∃ k : Nat, k ≤ n ∧ i = .int .i64 k ∧ Below w6.heap.size w6 wr) (fun i _ => n - (intOf i).toNat)
  case atStart => exact ⟨0, by omega, rfl, Below.refl _ _⟩
  case round =>
    obtain ⟨k, hk, rfl, bel⟩ := hrel
    by_cases hlt : k < n
    · have ke := (HE5.out.step bel).cell k
      rw [icellsA_get _ _ (by rw [HEL.out]; exact hlt)] at ke
      have kf := (HF.out.step bel).cell (k + 1)
      rw [icellsA_get _ _ (by rw [HFL.out]; omega), HRD.out k _ _ (HED.out k hlt) (HFD.out (k + 1) (by omega))] at kf
      have le := (HE5.out.step bel).lt; have lf := (HF.out.step bel).lt
      generalize dE.getD k 0 = x at *
      have i0 : (0 : Int) ≤ ↑k := by omega
      have i1 : (↑k : Int) < ↑n := by omega
      have j0 : (0 : Int) ≤ ↑k + 1 := by omega
      have j1 : (↑k + 1 : Int) < ↑(n + 1) := by omega
      have hwr : IntKind.i64.wrap ((k : Int) + 1) = (k : Int) + 1 := IntWalk.i64_in _ (by omega)
      have e2 : ((k : Int) + 1).toNat = k + 1 := by omega
      go_upto_region 10 with fail
      go_quiet (fail)
      clear e2 hwr
      go_wp2_with fail
      go_roundw
      case rel => exact ⟨k + 1, by omega, by go_num, Below.step bel (below_drewN _ _)⟩
      case measure => simp [intOf]; omega
    · go_wp2_with fail
      go_ret; exact ⟨rfl, b5.trans (bel.mono b5.size)⟩
end distanceTurned
end Go.Proofs.Ytkfhefefhnmljaa
