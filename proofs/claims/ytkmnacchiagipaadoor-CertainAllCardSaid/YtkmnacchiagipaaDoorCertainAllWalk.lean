/- The walk of CertainAll. -/
import Derived.Test.YtkmnacchiagipaaDoorCertAllUse
import Derived.Test.YtkmnacchiagipaaDoorPaths
import Derived.StillTailTactics
namespace Go.Proofs.YtkmnacchiagipaaDoor
open Go.RowKit

theorem CapW.keep {w W W' : World} {B mb g n cap : Nat} {vs : List Value} {ss ss' : List StateL} {q t : Nat} (h : CapW w B mb g n cap W vs ss ss' q t) (hb : Below W.heap.size W W') : CapW w B mb g n cap W' vs ss ss' q t :=
  ⟨h.mb.step hb, h.own.below hb (Nat.le_refl _), h.bel.trans (hb.mono h.bel.size), h.cp⟩
theorem row_froz {w : World} {B e g n c sz : Nat} {xs : List Value} (h : w.ownsRow B e sz (.slice (some ⟨g, 0, none⟩) n c) n xs) (o : Nat) : w.frozen? ⟨g, o, none⟩ = false ∧ g < w.heap.size := by
  rcases h.2 with ⟨h2, _⟩ | ⟨g', cap', cur', h2, _, hg, _⟩
  · simp at h2
  · simp at h2
    obtain ⟨rfl, -, -⟩ := h2
    exact ⟨by simp [World.frozen?, hg], (Array.getElem?_eq_some_iff.1 hg).1⟩
namespace certainAll
set_option maxRecDepth 100000 in
set_option maxHeartbeats 16000000 in
theorem walk {w : World} (ht : TabP w) (v1 : Value) (r1 : RawL) (hr1 : RawArg w v1 r1) :
    Calls Tryd.prog 9 #[v1] w fun e w' => e = .returned (.bool true) ∧ Below w.heap.size w w' := by
  have hfs : FwdSmall (fwdM (mkMach r1 4 false)) := fwdSmall_madeK r1 4 (by omega) (by omega)
  have hn4 : (fwdM (mkMach r1 4 false)).states.length ≤ 4 := by
    rw [fwdM_len]
    have h1 := mkMach_len r1 4 false (by omega)
    have h2 : mkN r1 4 ≤ 4 ∧ 1 ≤ mkN r1 4 := by unfold mkN; omega
    omega
  have hwt := capM_wt (fwdM_wt (wtU_of (made_little r1 4 false (by omega))))
  have HFD := Lib.hid (fun W (hb : Below w.heap.size w W) => forward_anyA v1 r1 4 W (hr1.below hb) (by omega) (by omega))
  have hs0 : (fwdM (mkMach r1 4 false)).start = 0 := rfl
  have HT := Lib.hid ht
  obtain ⟨-, -, A, c, rfl, -⟩ := hr1
  generalize fwdM (mkMach r1 4 false) = m at *
  have hcs := capM_small hfs
  have hc4 : (capM m).states.length ≤ 4 := by rw [capM_len]; exact hn4
  have hcf := capM_full m
  obtain ⟨M, hC, hM, hTT⟩ := fwd_counts hcs
  have HCS := Lib.hid hcs; have HCF := Lib.hid hcf; have HWC := Lib.hid (wtC_of hcs.v hwt); have HCC := Lib.hid hC; have HMM := Lib.hid hM; have HTT := Lib.hid hTT; have HG := Lib.hid (fwdG_of hcs hc4); have HSM := Lib.hid (wtU_small hwt (by omega))
  have HC4 := Lib.hid hc4
  have hn1 := hfs.n1
  have HST := Lib.hid hs0; have HA4 := Lib.hid hfs.a4
  clear hcs hcf hwt hfs hC hM hTT ht hc4 hs0
  go_enter Tryd.func9, Tryd.ntmps9
  go_wp2_with fail
  refine (HFD.out _ (by repeat' (first | exact Below.refl _ _ | assumption | refine Below.drew ?_ | refine Below.alloc ?_ (by first | omega | (simp; done) | (simp; omega)) _ | refine Below.setCell ?_ (by first | omega | (simp; done) | (simp; omega)) _))).mono ?_; rintro e w1 ⟨sv, vs, rfl, hO, hAp, q1⟩
  obtain ⟨g, cap, rfl, hgB, hglt, -⟩ := hO.addr (by omega)
  have b1 : Below w.heap.size w w1 := ((by repeat' (first | exact Below.refl _ _ | assumption | refine Below.drew ?_ | refine Below.alloc ?_ (by first | omega | (simp; done) | (simp; omega)) _ | refine Below.setCell ?_ (by first | omega | (simp; done) | (simp; omega)) _)) : Below w.heap.size w _).trans (q1.mono (by simp))
  have HO := Lib.hid (hO.mono (B' := w.heap.size) (by simp)); have HAP := Lib.hid hAp; have HB1 := Lib.hid b1
  rw [HST.out]
  obtain ⟨n, hn⟩ : ∃ n, m.states.length = n := ⟨_, rfl⟩
  have HN := Lib.hid hn
  rw [hn] at HO hn1 hn4
  rw [hn]
  clear hn q1 hO hAp hgB
  go_wp2_with fail
  have hz1 := b1.size
  have K0 : Hid (CapW w w.heap.size w1.heap.size g n cap (w1.alloc (.cells #[.int .i64 0, .slice (some ⟨g, 0, none⟩) n cap] 41)) vs m.states m.states 0 0) := Lib.hid ⟨Blk.new _ _ _, HO.out.below ((Below.refl _ _).alloc (Nat.le_refl _) _) (Nat.le_refl _), b1.alloc b1.size _, CapP.start _⟩
  clear b1 HO HB1
  generalize w1.alloc (.cells #[.int .i64 0, .slice (some ⟨g, 0, none⟩) n cap] 41) = w2 at *
  generalize w1.heap.size = mb at *
  go_loopw [4] (fun iv wr => ∃ (q : Nat) (ss' : List StateL), q ≤ n ∧ iv = .int .i64 q ∧ CapW w w.heap.size mb g n cap wr vs m.states ss' q 0) (fun iv _ => n - (intOf iv).toNat)
  case atStart => exact ⟨0, _, by omega, rfl, K0.out⟩
  case round =>
    clear K0
    obtain ⟨q, ss1, hq, rfl, hC⟩ := hrel
    obtain ⟨wo, rfl⟩ : ∃ wo : World, wo = wr := ⟨_, rfl⟩
    have HC := Lib.hid hC
    have km := hC.mb.cell; have lm := hC.mb.lt
    have q0 : (0 : Int) ≤ (q : Int) := by omega
    clear hC
    by_cases hqn : q < n
    · have q1 : (q : Int) < (n : Int) := by omega
      have hqm : q < m.states.length := by rw [HN.out]; exact hqn
      obtain ⟨N, hNN⟩ : ∃ N, m.states[q].arcs.length = N := ⟨_, rfl⟩
      have HNN := Lib.hid hNN
      have hN4 : N ≤ 4 := by rw [← hNN]; exact HA4.out _ (List.getElem_mem hqm)
      clear hNN
      go_wp2_with fail
      clear km lm
      go_loopw [5] (fun iv wr => ∃ (t : Nat) (ss' : List StateL), t ≤ N ∧ iv = .int .i64 t ∧ CapW w w.heap.size mb g n cap wr vs m.states ss' q t) (fun iv _ => N - (intOf iv).toNat)
      case atStart => exact ⟨0, _, by omega, rfl, HC.out⟩
      case round =>
        clear HC
        obtain ⟨t, ss', ht, rfl, hC⟩ := hrel
        obtain ⟨wi, rfl⟩ : ∃ wo : World, wo = wr := ⟨_, rfl⟩
        have HC := Lib.hid hC
        have hq' : q < ss'.length := by rw [hC.cp.len]; exact hqm
        have hqv : q < vs.length := by have := hC.own.len; omega
        have hNl : ss'[q].arcs.length = N := ((hC.cp.fin q _ _ (List.getElem?_eq_getElem hqm) (List.getElem?_eq_getElem hq')).2).trans HNN.out
        have kv := hC.own.cellA q hq' hqv
        simp only [blk_some, ofs_some, Nat.zero_add] at kv
        have km := hC.mb.cell; have lm := hC.mb.lt
        have lg := World.block_lt_of_cell? _ _ kv
        have hoq := hC.own.arcs q hq' hqv
        have t0 : (0 : Int) ≤ (t : Int) := by omega
        by_cases htl : t < N
        · have t1 : (t : Int) < (N : Int) := by omega
          obtain ⟨gq, cq, hvq, -, -⟩ := World.ownsRow.form hoq (by rw [hNl]; omega)
          rw [hNl] at hvq
          rw [hvq] at kv hoq
          have hat := (OwnArcs.at_ hoq).2
          have d0 := hat.c0 t (by rw [hNl]; exact htl)
          simp only [blk_some, ofs_some, Nat.zero_add] at d0
          obtain ⟨fz, lq⟩ := row_froz (by unfold OwnArcs at hoq; rw [hNl] at hoq; exact hoq) (t * 4)
          obtain ⟨ss2, hC2⟩ := hC.step (Nat.le_refl _) HAP.out hq' (by rw [hNl]; exact htl) hqv hvq
          have HC2 := Lib.hid (hC2.keep (Below.refl _ _).drew)
          generalize ss'[q].arcs[t].inn = x at *
          have fzd : wi.drew.frozen? ⟨gq, t * 4, none⟩ = false := fz
          have lqd : gq < wi.drew.heap.size := lq
          have cqd : wi.drew.cell? ⟨gq, t * 4, none⟩ = some (.int .i64 x) := d0
          clear hC hC2 hat hoq hvq hNl
          go_upto_region 8 with fail
          go_still_tail 20, (by kernel_rfl)
          change wpList _ _ _ _ _ wi.drew
          clear kv km lm lg d0 fz lq
          go_wp2_with fail
          go_roundw
          case rel => exact ⟨t + 1, ss2, by omega, by go_num, HC2.out⟩
          case measure => simp [intOf]; omega
        · obtain rfl : t = N := by omega
          obtain ⟨A', c', hvq, -, -⟩ := own_form hoq
          rw [hNl] at hvq
          rw [hvq] at kv
          have HNX := Lib.hid ({ hC with cp := hC.cp.next hq' (by rw [hNl]; exact Nat.le_refl _) } : CapW w w.heap.size mb g n cap wi vs m.states ss' (q + 1) 0)
          clear hC hoq hvq hNl
          go_wp2_with fail
          go_roundw
          case rel => exact ⟨q + 1, ss', by omega, by go_num, HNX.out⟩
          case measure => simp [intOf]; omega
    · obtain rfl : q = n := by omega
      have hss : ss1 = (capM m).states := HC.out.cp.done (by rw [HN.out]; exact Nat.le_refl _)
      subst hss
      have HSA := Lib.hid (OwnSt.at_ ⟨vs, HC.out.own⟩).2
      have HLN : Hid ((capM m).states.length = q) := Lib.hid (by rw [capM_len]; exact HN.out)
      have HSS : Hid ((capM m).start = 0) := Lib.hid HST.out
      have HMB := Lib.hid HC.out.mb; have HBE := Lib.hid HC.out.bel
      clear HC HAP HA4 HST HN
      generalize capM m = z at *
      have MA : Hid (∀ W, Below wo.heap.size wo W → MachAt W (.agg #[.int .i64 0, .slice (some ⟨g, 0, none⟩) q cap]) z) := Lib.hid fun W hb => ⟨some ⟨g, 0, none⟩, cap, by rw [HSS.out, HLN.out], HSA.out.below hb (Nat.le_refl _)⟩
      have MK9 := Lib.hid (Make_use (.agg #[.int .i64 0, .slice (some ⟨g, 0, none⟩) q cap]) z 9 wo (MA.out _ (Below.refl _ _)) HCS.out.v HWC.out (by omega) HCF.out.1 (by rw [HSS.out]; exact Int.le_refl 0) (HT.out.below HBE.out))
      clear HSA
      go_wp2_with fail
      clear km lm
      refine MK9.out.mono ?_; rintro e w3 ⟨⟨C1, k1, m1, er1, rfl, hE⟩, b3⟩
      rcases hE.full with ⟨-, -, -, -, hfull⟩ | ⟨rfl, x, hX⟩
      · exact absurd (hfull.fwd HG.out) id
      have HX := Lib.hid hX; have HB3 := Lib.hid b3
      clear hE hX MK9
      obtain ⟨Mx, kk, hR⟩ := all_counts HCS.out HC4.out HWC.out HX.out.ok HX.out.v HCC.out HTT.out
      have HR := Lib.hid hR
      have hp1 := HX.out.pos
      have hxs : Small x := wtU_small (HX.out.ok.wt HWC.out HX.out.v.size) (by omega)
      have HXS := Lib.hid hxs
      have PZ := Lib.hid (fun W (hb : Below wo.heap.size wo W) => Paths_any _ z W (MA.out W hb) HCS.out.v 0 HSS.out M HCC.out (fun q hq => by have := HMM.out q hq; omega) (by have := HTT.out; omega) (fun S hS => fwd_not_stuck HCS.out.f hS))
      have PX := Lib.hid (fun W (h : MachAt W (.agg #[.int .i64 0, .slice C1 m1 k1]) x) => Paths_any _ x W h HX.out.v 0 HX.out.st Mx HR.out.c HR.out.le (by rw [HR.out.t]; exact HR.out.k1) HR.out.ns)
      have LZ := Lib.hid (fun W (hb : Below wo.heap.size wo W) => Least_any _ z W (MA.out W hb) HCS.out.v (ends_small HCS.out.v HSM.out) (by rw [HSS.out]; exact Int.le_refl 0))
      have LX := Lib.hid (fun W (h : MachAt W (.agg #[.int .i64 0, .slice C1 m1 k1]) x) => Least_any _ x W h HX.out.v (ends_small HX.out.v HXS.out) (by rw [HX.out.st]; exact Int.le_refl 0))
      have hkt : tot x Mx = kk := hR.t
      have hkn := hR.kn; have hpos := hR.pos
      rw [hkt] at PX
      obtain ⟨nn, hnn⟩ : ∃ nn, tot z M = nn := ⟨_, rfl⟩
      rw [hnn] at PZ hkn hpos
      clear hR hxs hkt hnn
      go_upto_region 10 with fail
      have bA : Below w3.heap.size w3 (w3.alloc (.cells #[.int .i64 0, .slice C1 m1 k1] 41)) := (Below.refl _ _).alloc (Nat.le_refl _) _
      have Y4 := Lib.hid (Blk.new w3 #[.int .i64 0, .slice C1 m1 k1] 41)
      have B4 := Lib.hid (Below.step (a := wo) HB3.out bA)
      have X4 := Lib.hid (HX.out.step bA)
      generalize w3.alloc (.cells #[.int .i64 0, .slice C1 m1 k1] 41) = w4 at *
      generalize w3.heap.size = yb at *
      clear bA b3 HB3
      have Z4 := HMB.out.step B4.out
      have kz := Z4.cell; have lz := Z4.lt
      go_wp2_with fail
      clear kz lz Z4
      refine (PZ.out w4 B4.out).mono ?_; rintro e w5 ⟨rfl, b5⟩
      have Y5 := Lib.hid (Y4.out.step b5); have X5 := Lib.hid (X4.out.step b5); have B5 := Lib.hid (Below.step (a := wo) B4.out b5)
      have kz := Y5.out.cell; have lz := Y5.out.lt
      clear b5 Y4 X4 B4 PZ
      go_wp2_with fail
      clear kz lz
      refine (PX.out w5 X5.out.mach).mono ?_; rintro e w6 ⟨rfl, b6⟩
      have Y6 := Lib.hid (Y5.out.step b6); have X6 := Lib.hid (X5.out.step b6); have B6 := Lib.hid (Below.step (a := wo) B5.out b6)
      have Z6 := HMB.out.step B6.out
      have kz := Z6.cell; have lz := Z6.lt
      clear b6 Y5 X5 B5 PX Z6
      go_wp2_with fail
      clear kz lz
      refine (LZ.out w6 B6.out).mono ?_; rintro e w7 ⟨D, rfl, hD, b7⟩
      have HD := Lib.hid hD
      have Y7 := Lib.hid (Y6.out.step b7); have X7 := Lib.hid (X6.out.step b7); have B7 := Lib.hid (Below.step (a := wo) B6.out b7)
      have kz := Y7.out.cell; have lz := Y7.out.lt
      clear b7 Y6 X6 B6 LZ hD
      go_wp2_with fail
      clear kz lz
      refine (LX.out w7 X7.out.mach).mono ?_; rintro e w8 ⟨D2, rfl, hD2, b8⟩
      have h1 := HD.out
      rw [HSS.out] at h1
      rw [HX.out.st] at hD2
      obtain rfl : D = D2 := least_eq HCS.out.v HWC.out HSS.out HX.out.ok HX.out.v h1 hD2
      have Y8 := Lib.hid (Y7.out.step b8); have B8 := Lib.hid (HBE.out.trans ((Below.step (a := wo) B7.out b8).mono HBE.out.size))
      have kz := Y8.out.cell; have lz := Y8.out.lt
      have hm0 : (0 : Int) < (m1 : Int) := by omega
      have hkn2 : (kk : Int) ≤ (nn : Int) := by omega
      clear b8 Y7 X7 B7 LX hD2 h1 HD
      by_cases hk0 : 0 < kk
      · have hn0 := hpos.1 hk0
        have e1 : (0 : Int) < (kk : Int) := by omega
        have e2 : (0 : Int) < (nn : Int) := by omega
        have e3 : decide (0 < kk) = decide (0 < nn) := by simp [hk0, hn0]
        clear hpos
        go_wp2_with fail
        go_ret
        exact ⟨by first | rfl | (simp; done), B8.out⟩
      · have hn0 : ¬ 0 < nn := fun h => hk0 (hpos.2 h)
        have e1 : ¬ (0 : Int) < (kk : Int) := by omega
        have e2 : ¬ (0 : Int) < (nn : Int) := by omega
        have e3 : decide (0 < kk) = decide (0 < nn) := by simp [hk0, hn0]
        clear hpos
        go_wp2_with fail
        go_ret
        exact ⟨by first | rfl | (simp; done), B8.out⟩
end certainAll
end Go.Proofs.YtkmnacchiagipaaDoor
