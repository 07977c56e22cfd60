/- slices.CompactFunc at a row of arcs of the call's own. -/
import Derived.Test.YtlfjccgbngnjhaaCompactMem
import Derived.Test.YtlfjccgbngnjhaaArrWith
import Derived.Test.YtlfjccgbngnjhaaMBox
import Derived.Deep.RegionHeld3
namespace Go.Proofs.Ytlfjccgbngnjhaa
open Go.RowKit

theorem compL_small {l : List ArcL} (h : l.length < 2) : compL l = l := by
  match l, h with
  | [], _ => rfl
  | [a], _ => rfl
theorem enter_same3 (x : Array Value) (W : World) : (callFunc 31 x).run Try.prog W = .ok (.enter 31 x) W := by simp [go_sem]

theorem own_froz {w : World} {base g n m c : Nat} {e : TypeId} {size : Nat} {xs : List Value} (h : w.ownsRow base e size (.slice (some ⟨g, 0, none⟩) n c) m xs) (o : Nat) : w.frozen? ⟨g, o, none⟩ = false := by
  rcases h.2 with ⟨h0, _⟩ | ⟨g', cap, cur, hv, hb, hg, _⟩
  · cases h0
  · injection hv with e1 e2 e3
    injection e1 with e1; injection e1 with e1
    subst e1
    simp [World.frozen?, hg]
theorem arcs_some {w : World} {B g n c : Nat} {L : List ArcL} (h : OwnArcs w B (.slice (some ⟨g, 0, none⟩) n c) L) (i : Nat) (hi : i < L.length * 4) : (w.cell? ⟨g, i, none⟩).isSome = true := by
  have := (arcs_rd (OwnArcs.at_ h).2).cell i (by rw [arcsCells_len]; exact hi)
  simp only [blk_some, ofs_some, Nat.zero_add] at this
  rw [this]; rfl

set_option maxRecDepth 100000 in
set_option maxHeartbeats 8000000 in
theorem compact_own (v : Value) (l : List ArcL) (B : Nat) (w : World) (ho : OwnArcs w B v l) (hb : ∀ a ∈ l, BndA a) (hl : l.length ≤ 400) (hB : B ≤ w.heap.size) :
    Calls Try.prog 30 #[v, .func (.func 31) #[] #[]] w fun e w' => ∃ v', e = .returned v' ∧ OwnArcs w' B v' (compL l) ∧ Below B w w' := by
  obtain ⟨A, c, rfl, hc1, hc2⟩ := own_form ho
  by_cases h2 : l.length < 2
  · have HO := Lib.hid ho
    have HC := Lib.hid (compL_small h2)
    clear ho hb
    have e2 : (l.length : Int) < 2 := by omega
    generalize l.length = n at *
    go_enter Try.func30, Try.ntmps30
    go_wp2_with fail
    go_ret
    exact ⟨_, rfl, by rw [HC.out]; exact HO.out, Below.refl _ _⟩
  · have hA : ∃ g, A = some ⟨g, 0, none⟩ ∧ B ≤ g ∧ g < w.heap.size := by
      rcases ho.2 with ⟨h0, h1⟩ | ⟨g, cap, cur, hv, hbg, hg, _⟩
      · omega
      · injection hv with e1
        exact ⟨g, e1, hbg, (Array.getElem?_eq_some_iff.1 hg).1⟩
    obtain ⟨g, rfl, hBg, hgl⟩ := hA
    have HO := Lib.hid ho; have HB := Lib.hid hb
    have HO1 := Lib.hid (OInvC.start l)
    clear ho hb
    generalize hn : l.length = n at *
    have HN := Lib.hid hn
    clear hn
    have e2 : ¬ (n : Int) < 2 := by omega
    go_enter Try.func30, Try.ntmps30
    go_wp2_with fail
    go_loopw [5] (fun i wr => ∃ j : Nat, j + 1 ≤ n ∧ i = .int .i64 ((j : Int) + 1) ∧ Hid (OInvC l (j + 1)) ∧ Below w.heap.size w wr) (fun i _ => n - (intOf i).toNat)
    case atStart => exact ⟨0, by omega, rfl, HO1.out, Below.refl _ _⟩
    case round =>
      obtain ⟨j, hj, rfl, HI, bel⟩ := hrel
      obtain ⟨wo, rfl⟩ : ∃ wo : World, wo = wr := ⟨_, rfl⟩
      by_cases hlt : j + 1 < n
      · have hr := (OwnArcs.at_ (n := n) (l := l) (own_below HO.out bel (Nat.le_refl _))).2
        have hjl : j + 1 < l.length := by rw [HN.out]; exact hlt
        have hj0 : j < l.length := by omega
        have d0 := hr.c0 (j + 1) hjl; have d1 := hr.c1 (j + 1) hjl; have d2 := hr.c2 (j + 1) hjl; have d3 := hr.c3 (j + 1) hjl
        have e0 := hr.c0 j hj0; have e1 := hr.c1 j hj0; have e2' := hr.c2 j hj0; have e3 := hr.c3 j hj0
        simp only [blk_some, ofs_some, Nat.zero_add] at d0 d1 d2 d3 e0 e1 e2' e3
        have HSame := Lib.hid (fun W => same3_any l[j + 1] l[j] (HB.out _ (List.getElem_mem hjl)) (HB.out _ (List.getElem_mem hj0)) W)
        have HST := Lib.hid (fun (h : alike3 l[j + 1] l[j] = false) => HI.out.step (Nat.le_add_left 1 j) hjl h)
        have HFI := Lib.hid (fun (h : alike3 l[j + 1] l[j] = true) => HI.out.first (Nat.le_add_left 1 j) hjl h)
        clear hr
        generalize l[j + 1] = a at *
        generalize l[j] = b at *
        have KS : Hid (∀ W, Below wo.heap.size wo W → W.cell? ⟨g, (j + 1) * 4, none⟩ = some (.int .i64 a.inn) ∧ W.cell? ⟨g, (j + 1) * 4 + 1, none⟩ = some (.int .i64 a.out) ∧ W.cell? ⟨g, (j + 1) * 4 + 2, none⟩ = some (.int .i64 a.wt) ∧ W.cell? ⟨g, (j + 1) * 4 + 3, none⟩ = some (.int .i64 a.to) ∧ W.cell? ⟨g, j * 4, none⟩ = some (.int .i64 b.inn) ∧ W.cell? ⟨g, j * 4 + 1, none⟩ = some (.int .i64 b.out) ∧ W.cell? ⟨g, j * 4 + 2, none⟩ = some (.int .i64 b.wt) ∧ W.cell? ⟨g, j * 4 + 3, none⟩ = some (.int .i64 b.to) ∧ Below wo.heap.size wo W) := Lib.hid fun W hw => ⟨cellB hw d0, cellB hw d1, cellB hw d2, cellB hw d3, cellB hw e0, cellB hw e1, cellB hw e2', cellB hw e3, hw⟩
        have q1 : (0 : Int) ≤ ↑j + 1 := by omega
        have q2 : (↑j + 1 : Int) < ↑n := by omega
        have q3 : (0 : Int) ≤ ↑j := by omega
        have q4 : (↑j : Int) < ↑n := by omega
        have q5 : IntKind.i64.wrap (↑j : Int) = ↑j := IntWalk.i64_in _ (by omega)
        have q6 : (↑j + 1 : Int).toNat = j + 1 := by omega
        have q7 : wrap64 (↑j : Int) = ↑j := wrap_in _ (by omega)
        go_wp2_with fail
        go_region_held3 (fun W => W.cell? ⟨g, (j + 1) * 4, none⟩ = some (.int .i64 a.inn) ∧ W.cell? ⟨g, (j + 1) * 4 + 1, none⟩ = some (.int .i64 a.out) ∧ W.cell? ⟨g, (j + 1) * 4 + 2, none⟩ = some (.int .i64 a.wt) ∧ W.cell? ⟨g, (j + 1) * 4 + 3, none⟩ = some (.int .i64 a.to) ∧ W.cell? ⟨g, j * 4, none⟩ = some (.int .i64 b.inn) ∧ W.cell? ⟨g, j * 4 + 1, none⟩ = some (.int .i64 b.out) ∧ W.cell? ⟨g, j * 4 + 2, none⟩ = some (.int .i64 b.wt) ∧ W.cell? ⟨g, j * 4 + 3, none⟩ = some (.int .i64 b.to) ∧ Below wo.heap.size wo W) (first | exact KS.out _ ((Below.refl _ _).drew) | (go_split_ands; exact KS.out _ (Below.step (a := wo) (by first | exact (Below.refl _ _).drew | assumption) b3)))
          (first | (go_at_call 31; refine (HSame.out _).mono ?_; rintro e w' ⟨rfl, b3⟩))
        all_goals
          have BX : Below wo.heap.size wo w' := by go_split_ands; assumption
          have bz := bel.trans (BX.mono bel.size)
          clear BX KS HSame d0 d1 d2 d3 e0 e1 e2' e3 q3 q4 q5 q6 q7
          cases hs : alike3 a b with
          | false =>
            have HN2 := Lib.hid (HST.out hs)
            clear hs
            go_wp2_with fail
            go_roundw
            case rel => exact ⟨j + 1, by omega, by go_num, HN2, bz⟩
            case measure => simp [intOf]; omega
          | true =>
            have HI2 := Lib.hid (HFI.out hs)
            clear hs
            go_upto_region 9 with fail
            have HBZ := Lib.hid (bz.mono hB)
            have HO2 := Lib.hid (own_below HO.out bz (Nat.le_refl _))
            have hn2 : j + 1 < n := hlt
            clear bz bel HO1 HI hlt hj HST HFI
            obtain ⟨N, hN⟩ : ∃ N, n - (j + 1) = N := ⟨_, rfl⟩
            obtain ⟨o1, ho1⟩ : ∃ o1, (j + 1) * 4 = o1 := ⟨_, rfl⟩
            rw [hN, ho1]
            have HNN := Lib.hid hN; have HO1 := Lib.hid ho1
            clear hN ho1
            go_loopw [5, 7] (fun kv pv wr => ∃ (k t : Nat) (L : List ArcL), kv = .int .i64 k ∧ pv = .int .i64 ((t : Int) + 1) ∧ t + 1 ≤ N ∧ CInvC l L k (j + 1 + t) ∧ OwnArcs wr B (.slice (some ⟨g, 0, none⟩) n c) L ∧ Below B w wr) (fun _ pv _ => N - (intOf pv).toNat)
            case atStart => exact ⟨j + 1, 0, l, by go_num, by go_num, by have := HNN.out; omega, HI2.out, HO2.out, HBZ.out⟩
            case round =>
              obtain ⟨k, t, L, rfl, rfl, ht, hC, hOw, hbw⟩ := hrel
              obtain ⟨wi, rfl⟩ : ∃ wo : World, wo = wr := ⟨_, rfl⟩
              have HCI := Lib.hid hC; have HOW := Lib.hid hOw; have HBW := Lib.hid hbw
              have i0 : (0 : Int) ≤ (t : Int) := by omega
              have hLl : L.length = n := hC.len.trans HN.out
              have hkn : k < n := by have := hC.kp; have := hC.pl; have := HN.out; omega
              have hwg : g < wi.heap.size := by have := hbw.size; omega
              clear hC hOw hbw HI2 HO2 HBZ
              by_cases hlt : t + 1 < N
              · have hr := (OwnArcs.at_ HOW.out).2
                have hpl : j + 1 + t + 1 < L.length := by have := HNN.out; omega
                have hpl0 : j + 1 + t < L.length := by omega
                have d0 := hr.c0 _ hpl; have d1 := hr.c1 _ hpl; have d2 := hr.c2 _ hpl; have d3 := hr.c3 _ hpl
                have e0 := hr.c0 _ hpl0; have e1 := hr.c1 _ hpl0; have e2' := hr.c2 _ hpl0; have e3 := hr.c3 _ hpl0
                have ho := HO1.out
                rw [show (j + 1 + t + 1) * 4 = o1 + (t + 1) * 4 by omega] at d0 d1 d2 d3
                rw [show (j + 1 + t) * 4 = o1 + t * 4 by omega] at e0 e1 e2' e3
                simp only [blk_some, ofs_some, Nat.zero_add] at d0 d1 d2 d3 e0 e1 e2' e3
                have hsa : L[j + 1 + t + 1] = l[j + 1 + t + 1]'(by rw [HN.out]; omega) := by
                  have := HCI.out.same (j + 1 + t + 1) (by omega)
                  rw [List.getElem?_eq_getElem hpl, List.getElem?_eq_getElem (by rw [HN.out]; omega)] at this
                  injection this
                have hsb : L[j + 1 + t] = l[j + 1 + t]'(by rw [HN.out]; omega) := by
                  have := HCI.out.same (j + 1 + t) (by omega)
                  rw [List.getElem?_eq_getElem hpl0, List.getElem?_eq_getElem (by rw [HN.out]; omega)] at this
                  injection this
                rw [hsa] at d0 d1 d2 d3
                rw [hsb] at e0 e1 e2' e3
                clear hsa hsb
                have hpl' : j + 1 + t + 1 < l.length := by rw [HN.out]; omega
                have HSame := Lib.hid (fun W => same3_any (l[j + 1 + t + 1]'hpl') (l[j + 1 + t]'(by omega)) (HB.out _ (List.getElem_mem _)) (HB.out _ (List.getElem_mem _)) W)
                have HSK := Lib.hid (fun h => HCI.out.skip hpl' h)
                have HTK := Lib.hid (fun h => HCI.out.take hpl' h)
                have HST2 := Lib.hid (fun W (hw : Below wi.heap.size wi W) (x : ArcL) => own_setArc (own_below HOW.out hw (Nat.le_refl _)) k (by omega) x)
                have HSM := Lib.hid (fun W (hw : Below wi.heap.size wi W) => (show OwnArcs W B (.slice (some ⟨g, 0, none⟩) n c) L from own_below HOW.out hw (Nat.le_refl _)))
                clear hr
                generalize l[j + 1 + t + 1]'hpl' = a2 at *
                generalize l[j + 1 + t]'(by omega) = b2 at *
                have KS : Hid (∀ W, Below wi.heap.size wi W → W.cell? ⟨g, o1 + (t + 1) * 4, none⟩ = some (.int .i64 a2.inn) ∧ W.cell? ⟨g, o1 + (t + 1) * 4 + 1, none⟩ = some (.int .i64 a2.out) ∧ W.cell? ⟨g, o1 + (t + 1) * 4 + 2, none⟩ = some (.int .i64 a2.wt) ∧ W.cell? ⟨g, o1 + (t + 1) * 4 + 3, none⟩ = some (.int .i64 a2.to) ∧ W.cell? ⟨g, o1 + t * 4, none⟩ = some (.int .i64 b2.inn) ∧ W.cell? ⟨g, o1 + t * 4 + 1, none⟩ = some (.int .i64 b2.out) ∧ W.cell? ⟨g, o1 + t * 4 + 2, none⟩ = some (.int .i64 b2.wt) ∧ W.cell? ⟨g, o1 + t * 4 + 3, none⟩ = some (.int .i64 b2.to) ∧ Below wi.heap.size wi W) := Lib.hid fun W hw => ⟨cellB hw d0, cellB hw d1, cellB hw d2, cellB hw d3, cellB hw e0, cellB hw e1, cellB hw e2', cellB hw e3, hw⟩
                have hnN : N ≤ n := by have := HNN.out; omega
                have q1 : (0 : Int) ≤ ↑t + 1 := by omega
                have q2 : (↑t + 1 : Int) < ↑N := by omega
                have q3 : (0 : Int) ≤ ↑t := by omega
                have q4 : (↑t : Int) < ↑N := by omega
                have q5 : IntKind.i64.wrap (↑t : Int) = ↑t := IntWalk.i64_in _ (by omega)
                have q6 : (↑t + 1 : Int).toNat = t + 1 := by omega
                have q7 : wrap64 (↑t : Int) = ↑t := wrap_in _ (by omega)
                clear ho hpl hpl0 hpl' hLl hlt
                go_wp2_with fail
                go_region_held3 (fun W => W.cell? ⟨g, o1 + (t + 1) * 4, none⟩ = some (.int .i64 a2.inn) ∧ W.cell? ⟨g, o1 + (t + 1) * 4 + 1, none⟩ = some (.int .i64 a2.out) ∧ W.cell? ⟨g, o1 + (t + 1) * 4 + 2, none⟩ = some (.int .i64 a2.wt) ∧ W.cell? ⟨g, o1 + (t + 1) * 4 + 3, none⟩ = some (.int .i64 a2.to) ∧ W.cell? ⟨g, o1 + t * 4, none⟩ = some (.int .i64 b2.inn) ∧ W.cell? ⟨g, o1 + t * 4 + 1, none⟩ = some (.int .i64 b2.out) ∧ W.cell? ⟨g, o1 + t * 4 + 2, none⟩ = some (.int .i64 b2.wt) ∧ W.cell? ⟨g, o1 + t * 4 + 3, none⟩ = some (.int .i64 b2.to) ∧ Below wi.heap.size wi W) (first | exact KS.out _ ((Below.refl _ _).drew) | (go_split_ands; exact KS.out _ (Below.step (a := wi) (by first | exact (Below.refl _ _).drew | assumption) b3)))
                  (first | (go_at_call 31; refine (HSame.out _).mono ?_; rintro e w' ⟨rfl, b3⟩))
                all_goals
                  have BX : Below wi.heap.size wi w' := by go_split_ands; assumption
                  have hA4 : w'.cell? ⟨g, o1 + (t + 1) * 4, none⟩ = some (.int .i64 a2.inn) ∧ w'.cell? ⟨g, o1 + (t + 1) * 4 + 1, none⟩ = some (.int .i64 a2.out) ∧ w'.cell? ⟨g, o1 + (t + 1) * 4 + 2, none⟩ = some (.int .i64 a2.wt) ∧ w'.cell? ⟨g, o1 + (t + 1) * 4 + 3, none⟩ = some (.int .i64 a2.to) := ⟨(KS.out _ BX).1, (KS.out _ BX).2.1, (KS.out _ BX).2.2.1, (KS.out _ BX).2.2.2.1⟩
                  have bz2 := HBW.out.trans (BX.mono (by have := HBW.out.size; omega))
                  have HOK := HSM.out _ BX
                  have HOS := Lib.hid (HST2.out _ BX a2)
                  clear KS HSame d0 d1 d2 d3 e0 e1 e2' e3 q3 q4 q5 q7
                  cases hs : alike3 a2 b2 with
                  | true =>
                    have HC2 := Lib.hid (HSK.out hs)
                    have HOK := Lib.hid HOK
                    have HB3 := Lib.hid bz2
                    clear hs hA4 bz2 BX q6
                    go_wp2_with fail
                    go_roundw
                    case rel => exact ⟨k, t + 1, L, rfl, by go_num, by omega, HC2.out, HOK.out, HB3.out⟩
                    case measure => simp [intOf]; omega
                  | false =>
                    have HC2 := Lib.hid (HTK.out hs)
                    obtain ⟨x0, x1, x2, x3⟩ := hA4
                    have hr := (OwnArcs.at_ HOK).2
                    have hkL : k < L.length := by have := HCI.out.len; have := HN.out; omega
                    have y0 := hr.c0 k hkL; have y1 := hr.c1 k hkL; have y2 := hr.c2 k hkL; have y3 := hr.c3 k hkL
                    simp only [blk_some, ofs_some, Nat.zero_add] at y0 y1 y2 y3
                    have f0 := own_froz HOK (k * 4); have f1 := own_froz HOK (k * 4 + 1); have f2 := own_froz HOK (k * 4 + 2); have f3 := own_froz HOK (k * 4 + 3)
                    have HB3 := Lib.hid ((((bz2.setCell (p := ⟨g, k * 4, none⟩) hBg (.int .i64 a2.inn)).setCell (p := ⟨g, k * 4 + 1, none⟩) hBg (.int .i64 a2.out)).setCell (p := ⟨g, k * 4 + 2, none⟩) hBg (.int .i64 a2.wt)).setCell (p := ⟨g, k * 4 + 3, none⟩) hBg (.int .i64 a2.to))
                    have hwg' : g < w'.heap.size := by have := BX.size; omega
                    have k0 : (0 : Int) ≤ (k : Int) := by omega
                    have k1 : (k : Int) < (n : Int) := by omega
                    generalize L[k] = ak at *
                    clear hs bz2 BX hr hkL HOK
                    go_wp2_with fail
                    go_roundw
                    case rel => exact ⟨k + 1, t + 1, _, by go_num, by go_num, by omega, HC2.out, HOS.out, HB3.out⟩
                    case measure => simp [intOf]; omega
              · have hcl := fun ty => run_clear_arcs wi ty g (k * 4) (n - k) (c - k) (by omega) (fun i hi => arcs_some HOW.out _ (by omega)) (fun i hi => own_froz HOW.out _)
                have HCUT := Lib.hid (own_cut HOW.out (k := k) (by omega) (List.replicate ((n - k) * 4) (Value.int .i64 0)))
                have HDN := Lib.hid (HCI.out.done (by have := HNN.out; have := HN.out; omega))
                have hb2 := HBW.out.trans (below_setCells hBg (List.replicate ((n - k) * 4) (Value.int .i64 0)) (k * 4) wi)
                have HB3 := Lib.hid hb2
                have q8 : ¬ (k : Int) = (c : Int) := by omega
                clear hb2
                go_wp2_with fail
                go_ret
                exact ⟨_, rfl, by rw [HDN.out]; exact HCUT.out, HB3.out⟩
      · have i1 : ¬ (↑j : Int) + 1 < ↑n := by omega
        have HE := Lib.hid (HI.out.all (by rw [HN.out]; omega) (by omega))
        have HF := Lib.hid (own_below HO.out bel (Nat.le_refl _))
        rw [HN.out] at HF
        go_wp2_with fail
        go_ret
        exact ⟨_, rfl, by rw [HE.out]; unfold OwnArcs; rw [HN.out]; exact HF.out, bel.mono hB⟩
end Go.Proofs.Ytlfjccgbngnjhaa
