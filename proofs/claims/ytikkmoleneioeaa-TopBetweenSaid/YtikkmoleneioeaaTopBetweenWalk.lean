/- The walk of TopBetween. -/
import Derived.Test.YtikkmoleneioeaaTopUse
namespace Go.Proofs.Ytikkmoleneioeaa
open Go.RowKit

namespace topBetween
set_option maxRecDepth 100000 in
set_option maxHeartbeats 8000000 in
theorem walk {w : World} (v1 : Value) (r1 : RawL) (hr1 : RawArg w v1 r1) (v2 : Value) (r2 : RawL) (hr2 : RawArg w v2 r2) (A1 : Option Addr) (n1 k1 : Nat) (xs : List Int) (hx : IntArg w A1 n1 xs) :
    Calls Try.prog 6 #[v1, v2, .slice A1 n1 k1] w fun e w' => e = .returned (.bool true) ∧ Below w.heap.size w w' := by
  have hma : Valid (mkMach r1 4 false) := valid_made r1 4 false (by omega) (by omega)
  have hmb : Valid (mkMach r2 4 false) := valid_made r2 4 false (by omega) (by omega)
  have hsa : Little (mkMach r1 4 false) 4 4 := made_little r1 4 false (by omega)
  have hsb : Little (mkMach r2 4 false) 4 4 := made_little r2 4 false (by omega)
  have hss := made_smallS r1 4 (by omega) (by omega)
  have hfq := made_finQ r1 4 (by omega)
  have ha0 : 0 ≤ (mkMach r1 4 false).start := pick_lo _ _ (by unfold mkN; omega)
  have hb0 : 0 ≤ (mkMach r2 4 false).start := pick_lo _ _ (by unfold mkN; omega)
  have HMA := Lib.hid (fun W hb => Made_k v1 r1 4 (by omega) (by omega) W (hr1.below hb))
  have HMB := Lib.hid (fun W hb => Made_k v2 r2 4 (by omega) (by omega) W (hr2.below hb))
  have HWX := Lib.hid (fun W hb => Word_k A1 n1 k1 xs 4 W (hx.below hb) (by omega))
  have lx := mkWord_len xs 4
  have BX := Lib.hid (word_b xs 4)
  obtain ⟨-, -, A0, c0, rfl, -⟩ := hr1
  obtain ⟨-, -, B0, d0, rfl, -⟩ := hr2
  generalize hga : mkMach r1 4 false = a at *
  generalize hgb : mkMach r2 4 false = b at *
  generalize mkWord xs 4 = x at *
  have HVA := Lib.hid hma; have HVB := Lib.hid hmb; have HS := Lib.hid hss; have HFQ := Lib.hid hfq
  have HCB := Lib.hid (fun (ny : Nat) (hy : ny ≤ 12) => hsb.ok 12 0 hy (Nat.le_refl 0) (by omega))
  have HCO := Lib.hid (fun va vb W h1 h2 => compose_use va vb a b 9 9 W h1 h2 hma hmb ha0 hb0 hsa.wt9 hsb.wt9 (by omega))
  have HA0 := Lib.hid ha0
  clear hga hgb hma hmb hsa hsb hss hfq hx ha0 hb0
  go_enter Try.func6, Try.ntmps6
  go_wp2_with fail
  refine (HMA.out _ (by repeat' (first | exact Below.refl _ _ | assumption | refine Below.drew ?_ | refine Below.alloc ?_ (by first | omega | (simp; done) | (simp; omega)) _ | refine Below.setCell ?_ (by first | omega | (simp; done) | (simp; omega)) _))).mono ?_; rintro e w1 ⟨mv, rfl, o1, q1⟩
  obtain ⟨A, c, rfl, s1⟩ := own_open o1
  have b1 : Below w.heap.size w w1 := ((by repeat' (first | exact Below.refl _ _ | assumption | refine Below.drew ?_ | refine Below.alloc ?_ (by first | omega | (simp; done) | (simp; omega)) _ | refine Below.setCell ?_ (by first | omega | (simp; done) | (simp; omega)) _)) : Below w.heap.size w _).trans (q1.mono (by simp; omega))
  have U1 : Hid (Blk w1 (w.heap.size + 1) #[.int .i64 r2.start, .slice B0 r2.nodes.length d0] 24) := Lib.hid (Blk.step (Blk.new' (by simp)) q1)
  have S1 : Hid (StatesAt w1 A a.states) := Lib.hid s1
  have HB1 := Lib.hid b1
  have u0 := U1.out.cell 0; have u1 := U1.out.cell 1; have ul := U1.out.lt
  simp only [List.getElem?_toArray, List.getElem?_cons_succ, List.getElem?_cons_zero] at u0 u1
  have C1 : Below w1.heap.size w1 (w1.alloc (.cells #[.int .i64 a.start, .slice A a.states.length c] 28)) := (Below.refl _ _).alloc (Nat.le_refl _) _
  have MA := Lib.hid (Blk.new w1 #[.int .i64 a.start, .slice A a.states.length c] 28)
  have S1' := Lib.hid (S1.out.below C1 (Nat.le_refl _))
  have HB1' := Lib.hid (b1.trans (C1.mono b1.size))
  clear o1 q1 s1 HMA C1 b1 U1
  go_wp2_with fail
  refine (HMB.out _ HB1'.out).mono ?_; rintro e w2 ⟨mv2, rfl, o2, q2⟩
  obtain ⟨B, d, rfl, s2⟩ := own_open o2
  have HB2 := Lib.hid (HB1'.out.trans (q2.mono HB1'.out.size))
  have SA2 := Lib.hid (S1'.out.below q2 (Nat.le_refl _)); have SB2 := Lib.hid s2
  have MA2 := Lib.hid (MA.out.step q2)
  have ml2 := MA2.out.lt
  have C2 : Below w2.heap.size w2 (w2.alloc (.cells #[.int .i64 b.start, .slice B b.states.length d] 28)) := (Below.refl _ _).alloc (Nat.le_refl _) _
  have MB2 := Lib.hid (Blk.new w2 #[.int .i64 b.start, .slice B b.states.length d] 28)
  have SA2' := Lib.hid (SA2.out.below C2 (Nat.le_refl _)); have SB2' := Lib.hid (SB2.out.below C2 (Nat.le_refl _))
  have MA2' := Lib.hid (MA2.out.step C2); have HB2' := Lib.hid (HB2.out.trans (C2.mono HB2.out.size))
  clear o2 q2 s2 HMB C2 u0 u1
  go_wp2_with fail
  refine (HWX.out _ HB2'.out).mono ?_; rintro e w3 ⟨Ax, cx, rfl, hx3, q3⟩
  have SA3 := Lib.hid (SA2'.out.below q3 (Nat.le_refl _)); have SB3 := Lib.hid (SB2'.out.below q3 (Nat.le_refl _))
  have MA3 := Lib.hid (MA2'.out.step q3); have MB3 := Lib.hid (MB2.out.step q3)
  have HB3 := Lib.hid (HB2'.out.trans (q3.mono HB2'.out.size))
  generalize hxl : x.length = xl at *
  have HXL := Lib.hid hxl; have X3 := Lib.hid hx3
  have m0 := MA3.out.cell 0; have m1 := MA3.out.cell 1; have m2 := MB3.out.cell 0; have m3 := MB3.out.cell 1; have ml3 := MA3.out.lt; have mm3 := MB3.out.lt
  simp only [List.getElem?_toArray, List.getElem?_cons_succ, List.getElem?_cons_zero] at m0 m1 m2 m3
  clear q3 HWX hx3 hxl SA2' SB2' MA2' MB2 HB2' S1' HB1' SA2 SB2 MA2 HB2 MA
  go_wp2_with fail
  refine (HCO.out _ _ w3 ⟨A, c, rfl, SA3.out⟩ ⟨B, d, rfl, SB3.out⟩).mono ?_; rintro e w4 ⟨⟨C, k, n, er, rfl, hE⟩, q4⟩
  have HB4 := Lib.hid (HB3.out.trans (q4.mono HB3.out.size))
  have C4 : Below w4.heap.size w4 (w4.alloc (.cells #[.int .i64 0, .slice C n k] 28)) := (Below.refl _ _).alloc (Nat.le_refl _) _
  have SA4 := Lib.hid ((SA3.out.below q4 (Nat.le_refl _)).below C4 (Nat.le_refl _)); have SB4 := Lib.hid ((SB3.out.below q4 (Nat.le_refl _)).below C4 (Nat.le_refl _))
  have X4 := Lib.hid ((X3.out.below q4 rfl).below C4 rfl)
  have MA4 := Lib.hid (MA3.out.step q4); have MB4 := Lib.hid ((MB3.out.step q4).step C4)
  have MA4' := Lib.hid (MA4.out.step C4)
  have MC4 := Lib.hid (Blk.new w4 #[.int .i64 0, .slice C n k] 28)
  have HB4' := Lib.hid (HB4.out.trans (C4.mono HB4.out.size))
  rcases hE.full with ⟨rfl, rfl, rfl, rfl, -⟩ | ⟨rfl, cm, hC⟩
  · clear hE q4 C4 m0 m1 m2 m3 HCO
    go_wp2_with fail
    go_ret
    exact ⟨rfl, HB4'.out⟩
  · have HC4 := Lib.hid (hC.step C4)
    have n0 := MA4.out.cell 0; have n1 := MA4.out.cell 1; have nl := MA4.out.lt
    simp only [List.getElem?_toArray, List.getElem?_cons_succ, List.getElem?_cons_zero] at n0 n1
    have BG := Lib.hid (Begin_use A c a (w4.alloc (.cells #[.int .i64 0, .slice C n k] 28)) 9 4 SA4.out HVA.out HS.out HA0.out)
    clear hE hC q4 C4 m0 m1 m2 m3 HCO
    go_wp2_with fail
    refine BG.out.mono ?_; rintro e w5 ⟨Ar, kr, cr, rfl, hF5, -, b5⟩
    have C5 : Below w5.heap.size w5 (w5.alloc (.cells #[.int .i64 0, .slice Ar kr cr] 34)) := (Below.refl _ _).alloc (Nat.le_refl _) _
    have SA5 := Lib.hid (SA4.out.below b5 (Nat.le_refl _)); have SB5 := Lib.hid (SB4.out.below b5 (Nat.le_refl _))
    have X5 := Lib.hid (X4.out.below b5 rfl)
    have MA5 := Lib.hid (MA4'.out.step b5); have MB5 := Lib.hid (MB4.out.step b5); have MC5 := Lib.hid (MC4.out.step b5); have HC5 := Lib.hid (HC4.out.step b5)
    have RB5 := Lib.hid (Blk.new w5 #[.int .i64 0, .slice Ar kr cr] 34)
    have HB5 := Lib.hid (HB4'.out.trans (b5.mono HB4'.out.size))
    have HC55 := Lib.hid C5
    have FD := Lib.hid (Feed_use A c _ a (w5.alloc (.cells #[.int .i64 0, .slice Ar kr cr] 34)) 9 4 [] x Ax xl cx (xl : Int) (SA5.out.below C5 (Nat.le_refl _)) HVA.out HS.out (fed_below hF5 C5) (X5.out.below C5 rfl) BX.out (by simp only [List.length_nil]; omega) (by simp))
    rw [List.nil_append] at FD
    have e0 := MA5.out.cell 0; have e1 := MA5.out.cell 1; have el := MA5.out.lt
    simp only [List.getElem?_toArray, List.getElem?_cons_succ, List.getElem?_cons_zero] at e0 e1
    have hs5 : w5.heap.size < (w5.alloc (.cells #[.int .i64 0, .slice Ar kr cr] 34)).heap.size := by simp
    clear hF5 b5 C5 n0 n1 BG MA4 MA4' MB4 MC4 HC4 X4 SA4 SB4 HB4 HB4'
    go_wp2_with fail
    refine FD.out.mono ?_; rintro e w6 ⟨Af, kf, cf, rfl, hF6, b6⟩
    have b56 : Below w5.heap.size w5 ((w6.setCell ⟨w5.heap.size, 0, none⟩ (.int .i64 (xl : Int))).setCell ⟨w5.heap.size, 1, none⟩ (.slice Af kf cf)) := ((Below.step (a := w5) HC55.out b6).setCell (p := ⟨w5.heap.size, 0, none⟩) (Nat.le_refl _) _).setCell (p := ⟨w5.heap.size, 1, none⟩) (Nat.le_refl _) _
    have RB6 := RB5.out.step b6
    have r0 := RB6.cell 0; have r1 := RB6.cell 1; have r2 := RB6.froz; have r3 := RB6.lt
    have RB7 := Lib.hid (((RB6.put 0 (.int .i64 (xl : Int))).put 1 (.slice Af kf cf)).eq (cs' := #[.int .i64 (xl : Int), .slice Af kf cf]) (by simp))
    simp only [List.getElem?_toArray, List.getElem?_cons_succ, List.getElem?_cons_zero] at r0 r1
    have hF7 : FedO a 9 x ((w6.setCell ⟨w5.heap.size, 0, none⟩ (.int .i64 (xl : Int))).setCell ⟨w5.heap.size, 1, none⟩ (.slice Af kf cf)) (.agg #[.int .i64 (xl : Int), .slice Af kf cf]) := ((hF6.set (a := ⟨w5.heap.size, 0, none⟩) hs5 _).set (a := ⟨w5.heap.size, 1, none⟩) hs5 _).o
    have EN := Lib.hid (End_use A c _ a _ 9 9 4 x (SA5.out.below b56 (Nat.le_refl _)) HVA.out HS.out hF7 (by rw [HXL.out]; omega) (by omega) HFQ.out (by omega))
    have hm1 : w1.heap.size < w5.heap.size := el
    have HB56 := Lib.hid b56
    have e2 := (MA5.out.step (Below.step (a := w5) HC55.out b6)).cell 0; have e3 := (MA5.out.step (Below.step (a := w5) HC55.out b6)).cell 1; have e4 := (MA5.out.step (Below.step (a := w5) HC55.out b6)).lt
    simp only [List.getElem?_toArray, List.getElem?_cons_succ, List.getElem?_cons_zero] at e2 e3
    clear hF6 b6 RB6 hF7 b56 FD e0 e1
    go_wp2_with fail
    refine EN.out.mono ?_; rintro e w7 ⟨hE7, b7⟩
    have b57 := Below.step (a := w5) HB56.out b7
    have HB7 := Lib.hid (HB5.out.trans (b57.mono HB5.out.size))
    have SB7 := Lib.hid (SB5.out.below b57 (Nat.le_refl _)); have X7 := Lib.hid (X5.out.below b57 rfl)
    have MB7 := Lib.hid (MB5.out.step b57); have MC7 := MC5.out.step b57; have HC7 := Lib.hid (HC5.out.step b57)
    have RB8 := Lib.hid (RB7.out.step b7)
    have g0 := MC7.cell 0; have g1 := MC7.cell 1; have gl := MC7.lt
    simp only [List.getElem?_toArray, List.getElem?_cons_succ, List.getElem?_cons_zero] at g0 g1
    have RD := Lib.hid (WReads_any _ cm x Ax cx w7 HC7.out.mach HC7.out.v (by rw [HXL.out]; exact X7.out) (by rw [HXL.out]; omega) BX.out (wt_costOk HC7.out.v HC7.out.w (by omega) (by rw [HXL.out]; exact lx) (Nat.zero_le 4)))
    rw [HXL.out] at RD
    clear b57 MC7 EN e2 e3 e4 r0 r1 r2 r3 b7
    rcases hE7 with ⟨rfl, hno⟩ | ⟨⟨kc, ko⟩, Az, cz, rfl, hrz, htz, hgz, ⟨hlz, hcz⟩, hmin⟩
    · have HNO := Lib.hid hno
      clear hno
      go_wp2_with fail
      refine RD.out.mono ?_; rintro e w8 ⟨all, rfl, hB, b8⟩
      obtain rfl : all = 1000000001 := between_none (fun d y => HC7.out.tot x y d) HNO.out hB
      have R9 := RB8.out.step b8
      have r0 := R9.cell 0; have r1 := R9.lt
      simp only [List.getElem?_toArray, List.getElem?_cons_zero] at r0
      have HB8 := Lib.hid (HB7.out.trans (b8.mono HB7.out.size))
      clear hB b8 R9 RD g0 g1
      go_wp2_with fail
      go_ret
      exact ⟨rfl, HB8.out⟩
    · simp only at hrz htz hgz hlz hcz
      have hk0 : 0 ≤ kc := htz.nonneg HVA.out
      have HRZ := Lib.hid hrz; have HTZ := Lib.hid htz; have HGZ := Lib.hid hgz
      generalize hnk : ko.length = nk at *
      have HNK := Lib.hid hnk
      clear hrz htz hgz hmin hnk
      go_wp2_with fail
      refine RD.out.mono ?_; rintro e w8 ⟨all, rfl, hB, b8⟩
      have HBA := Lib.hid hB
      have R9 := RB8.out.step b8; have M9 := MB7.out.step b8
      have r0 := R9.cell 0; have r1 := R9.lt
      have m0 := M9.cell 0; have m1 := M9.cell 1; have ml := M9.lt
      simp only [List.getElem?_toArray, List.getElem?_cons_succ, List.getElem?_cons_zero] at r0 m0 m1
      have HB8 := Lib.hid (HB7.out.trans (b8.mono HB7.out.size))
      by_cases h12 : nk ≤ 12
      · have i2 : ¬ (12 : Int) < (nk : Int) := by omega
        have RZ := Lib.hid (WReads_any _ b ko Az cz w8 ⟨B, d, rfl, SB7.out.below b8 (Nat.le_refl _)⟩ HVB.out (by rw [HNK.out]; exact HRZ.out.below b8 rfl) (by rw [HNK.out]; exact h12) HGZ.out (by rw [HNK.out]; exact HCB.out nk h12))
        rw [HNK.out] at RZ
        clear hB b8 R9 M9 RD g0 g1
        go_wp2_with fail
        refine RZ.out.mono ?_; rintro e w9 ⟨k2, rfl, hB2, b9⟩
        have hle := between_le (k := ⟨kc, ko⟩) (fun d y => HC7.out.tot x y d) HTZ.out hB2 HBA.out hcz
        simp only at hle
        have hn2 := Best.nonneg HVB.out hB2
        have AD := Lib.hid (add_any kc k2 w9 ⟨hk0, by omega⟩ hn2)
        have HB9 := Lib.hid (HB8.out.trans (b9.mono HB8.out.size))
        clear hB2 b9 RZ r0 m0 m1 hn2
        generalize bothV kc k2 = bv at *
        go_wp2_with fail
        refine AD.out.mono ?_; rintro e w_ ⟨rfl, rfl⟩
        go_wp2_with fail
        go_ret
        exact ⟨rfl, HB9.out⟩
      · have i2 : (12 : Int) < (nk : Int) := by omega
        clear hB b8 R9 M9 RD g0 g1
        go_wp2_with fail
        go_ret
        exact ⟨rfl, HB8.out⟩
end topBetween
end Go.Proofs.Ytikkmoleneioeaa
