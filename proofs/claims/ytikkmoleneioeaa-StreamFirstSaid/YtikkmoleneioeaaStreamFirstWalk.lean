/- The walk of StreamFirst. -/
import Derived.Test.YtikkmoleneioeaaStreamUse
namespace Go.Proofs.Ytikkmoleneioeaa
open Go.RowKit

theorem first_diff {a b : List Int} {i : Nat} (ha : i < a.length) (hb : i < b.length) (hl : a.length = b.length) (hp : a.take i = b.take i) (ga : GoodW a) (gb : GoodW b) (hc : ¬ codeI b < codeI a) (hne : a[i] ≠ b[i]) : a[i] < b[i] := by
  rcases Int.lt_or_gt_of_ne hne with h | h
  · exact h
  · exfalso
    apply hc
    have ea : a = a.take i ++ a[i] :: a.drop (i + 1) := by rw [← List.drop_eq_getElem_cons ha, List.take_append_drop]
    have eb : b = a.take i ++ b[i] :: b.drop (i + 1) := by rw [hp, ← List.drop_eq_getElem_cons hb, List.take_append_drop]
    generalize a[i] = x at *
    generalize b[i] = y at *
    rw [ea, eb]
    exact codeI_first (by simp [hl]) (by rw [← eb]; exact gb) (by rw [← ea]; exact ga) h
namespace streamFirst
set_option maxRecDepth 100000 in
set_option maxHeartbeats 8000000 in
theorem walk {w : World} (v1 : Value) (r1 : RawL) (hr1 : RawArg w v1 r1) (A1 : Option Addr) (n1 k1 : Nat) (xs : List Int) (hx : IntArg w A1 n1 xs) (A2 : Option Addr) (n2 k2 : Nat) (ys : List Int) (hy : IntArg w A2 n2 ys) :
    Calls Try.prog 4 #[v1, .slice A1 n1 k1, .slice A2 n2 k2] w fun e w' => e = .returned (.bool true) ∧ Below w.heap.size w w' := by
  have hma : Valid (mkMach r1 6 false) := valid_made r1 6 false (by omega) (by omega)
  have hsa : Little (mkMach r1 6 false) 6 4 := made_little r1 6 false (by omega)
  have hss := made_smallS r1 6 (by omega) (by omega)
  have hfq := made_finQ r1 6 (by omega)
  have ha0 : 0 ≤ (mkMach r1 6 false).start := pick_lo _ _ (by unfold mkN; omega)
  have HMA := Lib.hid (fun W hb => made_any v1 r1 6 false W (hr1.below hb) (by omega) (by omega))
  have HWX := Lib.hid (fun W hb => word_any A1 n1 k1 xs 6 W (hx.below hb) (by omega))
  have HWY := Lib.hid (fun W hb => word_any A2 n2 k2 ys 4 W (hy.below hb) (by omega))
  have lx := mkWord_len xs 6; have ly := mkWord_len ys 4
  have BX := Lib.hid (word_b xs 6); have BY := Lib.hid (word_b ys 4)
  obtain ⟨-, -, A0, c0, rfl, -⟩ := hr1
  generalize mkMach r1 6 false = m at *
  generalize mkWord xs 6 = x at *
  generalize mkWord ys 4 = y at *
  have HV := Lib.hid hma; have HS := Lib.hid hss; have HFQ := Lib.hid hfq
  have HCA := Lib.hid (hsa.ok 6 4 (show x.length ≤ 6 by omega) (show y.length ≤ 4 by omega) (by omega))
  have HA0 := Lib.hid ha0
  clear hma hsa hss hfq hx hy ha0
  go_enter Try.func4, Try.ntmps4
  go_wp2_with fail
  refine (HMA.out _ (by repeat' (first | exact Below.refl _ _ | assumption | refine Below.drew ?_ | refine Below.alloc ?_ (by first | omega | (simp; done) | (simp; omega)) _ | refine Below.setCell ?_ (by first | omega | (simp; done) | (simp; omega)) _))).mono ?_; rintro e w1 ⟨mv, rfl, o1, q1⟩
  obtain ⟨A, c, rfl, s1⟩ := own_open o1
  have b1 : Below w.heap.size w w1 := ((by repeat' (first | exact Below.refl _ _ | assumption | refine Below.drew ?_ | refine Below.alloc ?_ (by first | omega | (simp; done) | (simp; omega)) _ | refine Below.setCell ?_ (by first | omega | (simp; done) | (simp; omega)) _)) : Below w.heap.size w _).trans (q1.mono (by simp))
  have S1 : Hid (StatesAt w1 A m.states) := Lib.hid s1
  clear o1 q1 s1 HMA
  go_wp2_with fail
  have z1 := b1.size
  have MB : Blk (w1.alloc (.cells #[.int .i64 m.start, .slice A m.states.length c] 28)) w1.heap.size #[.int .i64 m.start, .slice A m.states.length c] 28 := Blk.new _ _ _
  have b1' := b1.alloc b1.size (.cells #[.int .i64 m.start, .slice A m.states.length c] 28)
  have S1' := Lib.hid (S1.out.below ((Below.refl _ _).alloc (Nat.le_refl _) (.cells #[.int .i64 m.start, .slice A m.states.length c] 28)) (Nat.le_refl _))
  refine (HWX.out _ b1').mono ?_; rintro e wa ⟨xv, rfl, o2, q2⟩
  obtain ⟨Ax, cx, rfl, -, -⟩ := own_form o2
  have MBa := MB.step q2
  have ba := b1'.trans (q2.mono b1'.size)
  have Sa := Lib.hid (S1'.out.below q2 (Nat.le_refl _))
  have Xa := Lib.hid (Rd.of_own o2)
  have YA := Lib.hid (HWY.out _ ba)
  generalize hyl : y.length = yl at *
  have HYL := Lib.hid hyl
  clear hyl
  go_wp2_with fail
  refine YA.out.mono ?_; rintro e w2 ⟨yv, rfl, o3, q3⟩
  obtain ⟨Ay, cy, rfl, -, -⟩ := own_form o3
  have MB2 := MBa.step q3
  have b2 := ba.trans (q3.mono ba.size)
  have S2 := Lib.hid (Sa.out.below q3 (Nat.le_refl _))
  have X2 := Lib.hid (Xa.out.below q3 rfl)
  have Y2 := Lib.hid (Rd.of_own o3)
  have HM2 := Lib.hid MB2; have HB2 := Lib.hid b2
  have BG := Lib.hid (Begin_use A c m w2 9 4 S2.out HV.out HS.out HA0.out)
  have m0 := MB2.cell; have ml := MB2.lt
  generalize hxl : x.length = xl at *
  have HXL := Lib.hid hxl
  clear hxl o2 q2 MB MB2 b1 b1' S1 S1' HWX b2 o3 q3 MBa ba Sa Xa YA HWY
  go_wp2_with fail
  refine BG.out.mono ?_; rintro e w3 ⟨Ar, k0, cr, rfl, FB3, hlen0, b3⟩
  have HF3 := Lib.hid FB3
  have S3 := Lib.hid (S2.out.below b3 (Nat.le_refl _)); have X3 := Lib.hid (X2.out.below b3 rfl); have Y3 := Lib.hid (Y2.out.below b3 rfl)
  have MB3 := (HM2.out.step b3); have HM3 := Lib.hid MB3; have HB3 := Lib.hid (HB2.out.trans (b3.mono HB2.out.size))
  have l3 := b3.size
  clear FB3 b3 m0 BG
  have hk0 : ¬ ((k0 : Int) = 0) := by omega
  have ek0 : ((k0 : Int) == 0) = false := by simp; omega
  have C3 : Below w3.heap.size w3 (w3.alloc (.cells #[.int .i64 0, .slice Ar k0 cr] 34)) := (Below.refl _ _).alloc (Nat.le_refl _) _
  have RB3 := Lib.hid (Blk.new w3 #[.int .i64 0, .slice Ar k0 cr] 34)
  have S3' := Lib.hid (S3.out.below C3 (Nat.le_refl _)); have X3' := Lib.hid (X3.out.below C3 rfl); have Y3' := Lib.hid (Y3.out.below C3 rfl)
  have HM3' := Lib.hid (HM3.out.step C3); have HB3' := Lib.hid (HB3.out.trans (C3.mono HB3.out.size))
  have FD := Lib.hid (Feed_use A c _ m (w3.alloc (.cells #[.int .i64 0, .slice Ar k0 cr] 34)) 9 4 [] x Ax xl cx (xl : Int) S3'.out HV.out HS.out (fed_below HF3.out C3) X3'.out BX.out (by simp only [List.length_nil]; omega) (by simp))
  rw [List.nil_append] at FD
  have m0 := MB3.cell 0; have m1 := MB3.cell 1; have ml3 := MB3.lt
  simp only [List.getElem?_toArray, List.getElem?_cons_succ, List.getElem?_cons_zero] at m0 m1
  clear C3 MB3 hlen0
  go_wp2_with fail
  refine FD.out.mono ?_; rintro e w4 ⟨Ar4, k4, cr4, rfl, hF4, b4⟩
  have S4 := Lib.hid (S3'.out.below b4 (Nat.le_refl _)); have X4 := Lib.hid (X3'.out.below b4 rfl); have Y4 := Lib.hid (Y3'.out.below b4 rfl)
  have MB4 := HM3'.out.step b4; have HM4 := Lib.hid MB4; have HB4 := Lib.hid (HB3'.out.trans (b4.mono HB3'.out.size))
  have RB4 := RB3.out.step b4; have HRB4 := Lib.hid RB4
  have HF4 := Lib.hid hF4
  have m0 := MB4.cell 0; have m1 := MB4.cell 1; have ml4 := MB4.lt; have r4 := RB4.lt
  simp only [List.getElem?_toArray, List.getElem?_cons_succ, List.getElem?_cons_zero] at m0 m1
  clear hF4 b4 MB4 RB4 FD S3' X3' HM3' HB3' RB3 HF3
  have EN := Lib.hid (fun W (hb : Below w4.heap.size w4 W) => End_use A c _ m W 9 9 4 x (S4.out.below hb (Nat.le_refl _)) HV.out HS.out (fed_below HF4.out hb) (by rw [HXL.out]; omega) (by omega) HFQ.out (by omega))
  have C4 : Below w4.heap.size w4 (w4.alloc (.cells #[.int .i64 (xl : Int), .slice Ar4 k4 cr4] 34)) := (Below.refl _ _).alloc (Nat.le_refl _) _
  have E4 := Lib.hid (EN.out _ C4)
  have S4' := Lib.hid (S4.out.below C4 (Nat.le_refl _)); have X4' := Lib.hid (X4.out.below C4 rfl); have Y4' := Lib.hid (Y4.out.below C4 rfl)
  have HM4' := Lib.hid (HM4.out.step C4); have HB4' := Lib.hid (HB4.out.trans (C4.mono HB4.out.size)); have HRB4' := Lib.hid (HRB4.out.step C4)
  clear C4 EN
  go_wp2_with fail
  refine E4.out.mono ?_; rintro e w5 ⟨hE, b5⟩
  have S5 := Lib.hid (S4'.out.below b5 (Nat.le_refl _)); have X5 := Lib.hid (X4'.out.below b5 rfl); have Y5 := Lib.hid (Y4'.out.below b5 rfl)
  have MB5 := HM4'.out.step b5; have HM5 := Lib.hid MB5; have HB5 := Lib.hid (HB4'.out.trans (b5.mono HB4'.out.size))
  have RB5 := HRB4'.out.step b5; have HRB5 := Lib.hid RB5
  have m5 := MB5.cell 0; have m6 := MB5.cell 1; have ml5 := MB5.lt; have r5 := RB5.lt
  simp only [List.getElem?_toArray, List.getElem?_cons_succ, List.getElem?_cons_zero] at m5 m6
  have RD := Lib.hid (cost_n _ m x y Ax Ay xl yl cx cy w5 HXL.out HYL.out ⟨A, c, rfl, S5.out⟩ HV.out X5.out Y5.out (by omega) (by omega) BX.out BY.out HCA.out)
  clear b5 MB5 RB5 E4 m0 m1
  rcases hE with ⟨rfl, hno⟩ | ⟨⟨kc, ko⟩, A5, c5, rfl, hr5, ht5, hg5, hl5, hmin5⟩
  · have HNO := Lib.hid hno
    clear hno
    go_wp2_with fail
    refine RD.out.mono ?_; rintro e w6 ⟨n, rfl, hB, b6⟩
    obtain rfl : n = 1000000001 := best_none hB fun c hc => HNO.out ⟨c, y⟩ hc
    have RB6 := HRB5.out.step b6
    have r6 := RB6.cell 1; have r7 := RB6.lt
    simp only [List.getElem?_toArray, List.getElem?_cons_succ, List.getElem?_cons_zero] at r6
    have HB6 := Lib.hid (HB5.out.trans (b6.mono HB5.out.size))
    clear hB b6 RB6 RD m5 m6
    go_wp2_with fail
    go_ret
    exact ⟨rfl, HB6.out⟩
  · simp only at hr5 ht5 hg5 hl5
    have HR5 := Lib.hid hr5; have HT5 := Lib.hid ht5; have HG5 := Lib.hid hg5; have HN5 := Lib.hid hmin5
    obtain ⟨hkl, hkc⟩ := hl5
    generalize hnk : ko.length = nk at *
    have HNK := Lib.hid hnk
    clear hr5 ht5 hg5 hmin5 hnk
    go_wp2_with fail
    refine RD.out.mono ?_; rintro e w6 ⟨n, rfl, hB, b6⟩
    have hnn := (Best.nonneg HV.out hB).1
    have hcmp : kc < n ∨ (n = kc ∧ nk ≤ yl ∧ (nk = yl → ¬ codeI y < codeI ko)) := by
      rcases hB with ⟨h, -⟩ | ⟨h, -⟩
      · left; have : INF = 1000000001 := rfl; omega
      · have := HN5.out ⟨n, y⟩ h
        unfold klt at this
        simp only at this
        have e1 := HNK.out; have e2 := HYL.out
        omega
    have i0 : ¬ n < 0 := by omega
    have RB6 := HRB5.out.step b6
    have r6 := RB6.cell 1; have r7 := RB6.lt
    simp only [List.getElem?_toArray, List.getElem?_cons_succ, List.getElem?_cons_zero] at r6
    have HB6 := Lib.hid (HB5.out.trans (b6.mono HB5.out.size))
    have R6 := Lib.hid (HR5.out.below b6 rfl); have Y6 := Lib.hid (Y5.out.below b6 rfl)
    rcases hcmp with hlt | ⟨rfl, hle, hcode⟩
    · clear hB b6 RB6 RD m5 m6
      go_wp2_with fail
      go_ret
      exact ⟨rfl, HB6.out⟩
    · have i1 : ¬ n < n := by omega
      have i2 : ¬ (yl : Int) < (nk : Int) := by omega
      have i2n : ¬ yl < nk := by omega
      have i2d : decide (yl < nk) = false := decide_eq_false i2n
      have HCD := Lib.hid hcode
      clear hB b6 RB6 RD m5 m6 hcode
      go_wp2_with fail
      by_cases hne : nk = yl
      · have HNE := Lib.hid hne
        have i3 : ((yl : Int) == (nk : Int)) = true := by simp [hne]
        have hyn : yl ≤ nk := by omega
        clear hne
        have rk := R6.out.rdy; have ry := Y6.out.rdy
        go_loopw [18] (fun iv W => ∃ i : Nat, i ≤ nk ∧ iv = .int .i64 i ∧ Below w6.heap.size w6 W ∧ Hid (ko.take i = y.take i)) (fun iv _ => nk - (intOf iv).toNat)
        case atStart => exact ⟨0, by omega, rfl, Below.refl _ _, Lib.hid rfl⟩
        case round =>
          obtain ⟨i, hi, rfl, bel, hpre⟩ := hrel
          have j0 : (0 : Int) ≤ ↑i := by omega
          by_cases hit : i < nk
          · have j1 : (↑i : Int) < ↑nk := by omega
            have j2 : (↑i : Int) < ↑yl := by omega
            have hk1 : i < ko.length := by have := HNK.out; omega
            have hy1 : i < y.length := by have := HYL.out; omega
            have d0 := rdi_cell (R6.out.below bel rfl) i hk1
            have d1 := rdi_cell (Y6.out.below bel rfl) i hy1
            have l0 := World.block_lt_of_cell? _ _ d0; have l1 := World.block_lt_of_cell? _ _ d1
            have HFD := Lib.hid (first_diff hk1 hy1 (by rw [HNK.out, HYL.out, HNE.out]) hpre.out HG5.out BY.out (Int.not_lt.2 (HCD.out HNE.out)))
            have HTA := Lib.hid (show ko[i] = y[i] → ko.take (i + 1) = y.take (i + 1) from fun e => by rw [List.take_succ_eq_append_getElem hk1, List.take_succ_eq_append_getElem hy1, hpre.out, e])
            generalize ko[i] = p at *
            generalize y[i] = q at *
            by_cases hpq : p = q
            · have HT2 := Lib.hid (HTA.out hpq)
              have hb : (p != q) = false := by simp [hpq]
              clear hpq
              go_wp2_with fail
              go_region
              all_goals
                go_wp2_with fail
                go_roundw
                case rel => exact ⟨i + 1, by omega, by go_num, by first | exact bel | exact bel.drew, Lib.hid HT2.out⟩
                case measure => simp [intOf]; omega
            · have hb : (p != q) = true := by simp [hpq]
              have hl2 := HFD.out hpq
              clear hpq
              have HBB := Lib.hid bel
              go_wp2_with fail
              go_region
              all_goals
                go_wp2_with fail
                go_region
                all_goals
                  go_wp2_with fail
                  go_ret
                  exact ⟨rfl, HB6.out.trans ((by repeat' (first | exact HBB.out | refine Below.drew ?_) : Below w6.heap.size w6 _).mono HB6.out.size)⟩
          · obtain rfl : nk = i := by omega
            have j1 : ¬ (↑nk : Int) < ↑nk := by omega
            go_wp2_with fail
            go_ret
            exact ⟨rfl, HB6.out.trans (bel.mono HB6.out.size)⟩
      · have i3 : ((yl : Int) == (nk : Int)) = false := by simp; omega
        clear hne
        have HB66 := Lib.hid (Below.refl w6.heap.size w6)
        go_loopw [18] (fun iv W => iv = .int .i64 (0 : Nat) ∧ Below w6.heap.size w6 W) (fun iv _ => 0)
        case atStart => exact ⟨rfl, Below.refl _ _⟩
        case round =>
          obtain ⟨rfl, bel⟩ := hrel
          by_cases hnz : (0 : Int) < (nk : Int)
          · go_wp2_with fail
            go_ret
            exact ⟨rfl, HB6.out.trans (bel.mono HB6.out.size)⟩
          · go_wp2_with fail
            go_ret
            exact ⟨rfl, HB6.out.trans (bel.mono HB6.out.size)⟩
end streamFirst
end Go.Proofs.Ytikkmoleneioeaa
