/- The walk of BestPays. -/
import Derived.Test.YtndajklppipckaaBest
import Derived.Test.YtndajklppipckaaFollow
import Derived.Test.YtndajklppipckaaPaid
import Derived.Test.YtndajklppipckaaPathCost
import Derived.Test.YtndajklppipckaaCostMade
import Derived.Test.YtndajklppipckaaMade
import Derived.Test.YtndajklppipckaaValid
namespace Go.Proofs.Ytndajklppipckaa
open Go.RowKit

namespace bestPays
set_option maxRecDepth 100000 in
set_option maxHeartbeats 8000000 in
theorem walk {w : World} (v : Value) (r : RawL) (hr : RawArg w v r) :
    Calls Try.prog 7 #[v] w fun e w' => e = .returned (.bool true) ∧ Below w.heap.size w w' := by
  have hm : Valid (mkMach r 8 false) := valid_made r 8 false (by omega) (by omega)
  have hsm : Small (mkMach r 8 false) := small_made r 8 false
  have hlm : Little (mkMach r 8 false) 8 4 := made_little r 8 false (by omega)
  have hst0 : 0 ≤ (mkMach r 8 false).start := pick_lo _ _ (by unfold mkN; omega)
  have HMD := Lib.hid (fun W hb => made_any v r 8 false W (hr.below hb) (by omega) (by omega))
  obtain ⟨hst, hlen, A, c, rfl, hN⟩ := hr
  generalize mkMach r 8 false = m at *
  have HV := Lib.hid hm; have HSM := Lib.hid hsm; have HST := Lib.hid hst0; have HLM := Lib.hid hlm
  have hsz := hm.size
  have hbs : BSmall m := hsm
  have HBS := Lib.hid hbs
  clear hN hst hlen hm hsm hst0 hlm hbs
  go_enter Try.func7, Try.ntmps7
  go_wp2_with fail
  refine (HMD.out _ (by repeat' (first | exact Below.refl _ _ | assumption | refine Below.drew ?_ | refine Below.alloc ?_ (by first | omega | (simp; done) | (simp; omega)) _ | refine Below.setCell ?_ (by first | omega | (simp; done) | (simp; omega)) _))).mono ?_; rintro e w1 ⟨mv, rfl, o1, r1⟩
  obtain ⟨A3, c3, rfl, s1⟩ := own_open o1
  have b1 : Below w.heap.size w w1 := ((by repeat' (first | exact Below.refl _ _ | assumption | refine Below.drew ?_ | refine Below.alloc ?_ (by first | omega | (simp; done) | (simp; omega)) _ | refine Below.setCell ?_ (by first | omega | (simp; done) | (simp; omega)) _)) : Below w.heap.size w _).trans (r1.mono (by simp))
  have X1 := Lib.hid (MBox.new (c := c3) s1)
  have b1a := b1.alloc b1.size (.cells #[.int .i64 m.start, .slice A3 m.states.length c3] 31)
  clear o1 r1 HMD s1
  go_wp2_with fail
  refine (Best_any _ m _ X1.out.mach HV.out HSM.out HST.out).mono ?_; rintro e w2 ⟨hB, r2⟩
  have b2 : Below w.heap.size w w2 := b1a.trans (r2.mono b1a.size)
  have hdist := fun (D' : Int) hD => dist_small (ends_small' HV.out HSM.out) (q := m.start.toNat) (d := D') hD
  have HDS := Lib.hid hdist; clear hdist
  rcases hB with ⟨rfl, hn⟩ | ⟨D, av, l, t, z, rfl, ho, htr, htz, hzf, htc, hD0, hD1, hmin, hln⟩
  · have HN := Lib.hid hn
    have bz : Below w2.heap.size w2 (w2.alloc (.cells #[.int .i64 0, .slice none 0 0] 49)) := (Below.refl _ _).alloc (Nat.le_refl _) _
    have X2 := Lib.hid ((X1.out.step r2).step bz)
    have P2 : Hid (Blk (w2.alloc (.cells #[.int .i64 0, .slice none 0 0] 49)) w2.heap.size #[.int .i64 0, .slice none 0 0] 49) := Lib.hid (Blk.new _ _ _)
    have b2a := b2.trans (bz.mono b2.size)
    have k2 := (X1.out.step r2).blk.cell; have l2 := (X1.out.step r2).blk.lt
    clear hn r2 X1 b1a bz
    go_wp2_with fail
    clear k2 l2
    generalize w2.alloc (.cells #[.int .i64 0, .slice none 0 0] 49) = w3 at *
    generalize w2.heap.size = pb at *
    refine (Least_any _ m _ X2.out.mach HV.out (ends_small HV.out HSM.out) HST.out).mono ?_; rintro e w4 ⟨D', rfl, hD, r4⟩
    have b4 := b2a.trans (r4.mono b2a.size)
    have P4 := P2.out.step r4
    have k4 := P4.cell; have l4 := P4.lt
    have hDI : D' = 1000000001 := by
      rcases HDS.out D' hD with h | h
      · exact h.1
      · obtain ⟨B, hB⟩ := way_tw HV.out h.2.2.1
        exact absurd hB (HN.out _ _)
    subst hDI
    clear hD r4 P4 HN HDS
    go_wp2_with fail
    go_ret
    exact ⟨rfl, b4⟩
  · obtain ⟨bA, bc, rfl, -, -⟩ := own_form ho
    have HTR := Lib.hid htr; have HTZ := Lib.hid htz; have HZF := Lib.hid hzf; have HTC := Lib.hid htc
    have HMIN : Hid (∀ A B, Tw m m.start.toNat A B → D ≤ A) := Lib.hid (fun A B ht => by have h := hmin A B ht; unfold lle at h; simp only at h; omega)
    have HTW : Hid (Tw m m.start.toNat D l.length) := Lib.hid (by have h := trun_tw htr htz hzf; rwa [htc] at h)
    have HACC : Hid (AccW m m.start.toNat t.x t.y D) := Lib.hid (by have h := trun_accW htr htz hzf; rwa [htc] at h)
    have bz : Below w2.heap.size w2 (w2.alloc (.cells #[.int .i64 D, .slice bA l.length bc] 49)) := (Below.refl _ _).alloc (Nat.le_refl _) _
    have X2 := Lib.hid ((X1.out.step r2).step bz)
    have P2 : Hid (Blk (w2.alloc (.cells #[.int .i64 D, .slice bA l.length bc] 49)) w2.heap.size #[.int .i64 D, .slice bA l.length bc] 49) := Lib.hid (Blk.new _ _ _)
    have RL2 := Lib.hid ((Rd.of_own ho).below bz rfl)
    have b2a := b2.trans (bz.mono b2.size)
    have k2 := (X1.out.step r2).blk.cell; have l2 := (X1.out.step r2).blk.lt
    have hll : l.length ≤ 100 := by omega
    clear ho htr htz hzf htc hmin r2 X1 b1a bz
    go_wp2_with fail
    clear k2 l2
    generalize w2.alloc (.cells #[.int .i64 D, .slice bA l.length bc] 49) = w3 at *
    generalize w2.heap.size = pb at *
    refine (Least_any _ m _ X2.out.mach HV.out (ends_small HV.out HSM.out) HST.out).mono ?_; rintro e w4 ⟨D', rfl, hD, r4⟩
    obtain ⟨hDD, -⟩ := best_D HV.out HTW.out HMIN.out (HDS.out D' hD)
    subst hDD
    have b4 := b2a.trans (r4.mono b2a.size)
    have X4 := Lib.hid (X2.out.step r4); have P4 := Lib.hid (P2.out.step r4); have RL4 := Lib.hid (RL2.out.below r4 rfl)
    have k4 := X4.out.blk.cell; have l4 := X4.out.blk.lt; have k4p := P4.out.cell; have l4p := P4.out.lt
    have e1 : (D' == 1000000001) = false := by simp; omega
    clear hD r4 X2 P2 RL2 HDS
    go_wp2_with fail
    clear k4 l4 k4p l4p
    refine (Follow_any _ m bA bc l _ X4.out.mach HV.out HBS.out HST.out RL4.out hll).mono ?_; rintro e w5 ⟨hF, r5⟩
    have b5 := b4.trans (r5.mono b4.size)
    obtain ⟨X, nX, Y, nY, rfl, hxo, hyo⟩ : ∃ (X : Option Addr) (nX : Nat) (Y : Option Addr) (nY : Nat), e = .returned (.tuple #[.slice X t.x.length nX, .slice Y t.y.length nY, .int .i64 D', .int .i64 0]) ∧ Rd w5 X t.x.length 1 (icells t.x) ∧ Rd w5 Y t.y.length 1 (icells t.y) := by
      rcases hF with ⟨-, h⟩ | ⟨xv, yv, t', z', rfl, h1, h2, h3, h4, h5⟩
      · exact absurd (h t z HTR.out HTZ.out) HZF.out
      · rw [HTR.out] at h1; cases h1
        rw [HTZ.out] at h2; cases h2
        obtain ⟨X, nX, rfl, -, -⟩ := own_form h4
        obtain ⟨Y, nY, rfl, -, -⟩ := own_form h5
        exact ⟨X, nX, Y, nY, by rw [HTC.out], Rd.of_own h4, Rd.of_own h5⟩
    have HXO := Lib.hid hxo; have HYO := Lib.hid hyo
    have X5 := Lib.hid (X4.out.step r5); have P5 := Lib.hid (P4.out.step r5); have RL5 := Lib.hid (RL4.out.below r5 rfl)
    have k5 := X5.out.blk.cell; have l5 := X5.out.blk.lt; have k5p := P5.out.cell; have l5p := P5.out.lt
    have hln2 : ¬ (m.states.length : Int) ≤ (l.length : Int) := by omega
    clear hF hxo hyo r5 X4 P4 RL4
    go_wp2_with fail
    clear k5 l5 k5p l5p
    refine (paid_any _ m bA bc l _ X5.out.mach HV.out HBS.out HST.out RL5.out hll).mono ?_; rintro e w6 ⟨p, rfl, hp, r6⟩
    obtain rfl : p = D' := by
      rcases hp with ⟨-, h⟩ | ⟨t', z', h1, h2, h3, h4, -⟩
      · exact absurd (h t z HTR.out HTZ.out) HZF.out
      · rw [HTR.out] at h1; cases h1
        rw [HTZ.out] at h2; cases h2
        rw [h4]; exact HTC.out
    have b6 := b5.trans (r6.mono b5.size)
    have X6 := Lib.hid (X5.out.step r6)
    have HXO6 := Lib.hid (HXO.out.below r6 rfl); have HYO6 := Lib.hid (HYO.out.below r6 rfl)
    have k6 := X6.out.blk.cell; have l6 := X6.out.blk.lt
    have hlab := accW_lab HV.out HACC.out
    have HLAB := Lib.hid hlab
    clear hp r6 X5 P5 RL5 HXO HYO hlab
    generalize htx : t.x = x at *
    generalize hty : t.y = y at *
    clear htx hty
    by_cases hx : 12 < x.length
    · have hx' : (12 : Int) < (x.length : Int) := by omega
      go_wp2_with fail
      go_ret
      exact ⟨rfl, b6⟩
    · have hx' : ¬ (12 : Int) < (x.length : Int) := by omega
      by_cases hy : 12 < y.length
      · have hy' : (12 : Int) < (y.length : Int) := by omega
        go_wp2_with fail
        go_ret
        exact ⟨rfl, b6⟩
      · have hy' : ¬ (12 : Int) < (y.length : Int) := by omega
        have HCK := Lib.hid (HLM.out.ok (lx := x.length) (ly := y.length) 12 12 (by omega) (by omega) (by omega))
        go_wp2_with fail
        refine (cost_any _ m x y X Y nX nY _ X6.out.mach HV.out HXO6.out HYO6.out (by omega) (by omega) HLAB.out.1 HLAB.out.2 HCK.out).mono ?_; rintro e w7 ⟨c0, rfl, hBB, r7⟩
        obtain rfl : c0 = p := best_words HST.out HACC.out HMIN.out hBB
        have b7 := b6.trans (r7.mono b6.size)
        clear hBB r7
        go_wp2_with fail
        go_ret
        exact ⟨rfl, b7⟩
end bestPays
end Go.Proofs.Ytndajklppipckaa
