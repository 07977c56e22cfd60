/- paid. -/
import Derived.Test.YtndajklppipckaaBestPath
import Derived.Test.YtndajklppipckaaMBox
import Derived.Test.YtndajklppipckaaIntArg
import Derived.Test.YtndajklppipckaaBuild
import Derived.LoopTactic
import Derived.IntWalk
import Derived.Deep.DeepCutAuto
import Derived.Deep.RegionHeld3
import Derived.Deep.QuietTactic
import Derived.BigQuiet
namespace Go.Proofs.Ytndajklppipckaa
open Go.RowKit

/-- what paid answers -/
def PaidR (m : MachL) (s : Nat) (l : List Int) (p : Int) : Prop := (p = 1000000001 ∧ ∀ t z, trun m s l = some t → m.states[t.q]? = some z → z.final = 1000000001) ∨
  ∃ t z, trun m s l = some t ∧ m.states[t.q]? = some z ∧ z.final ≠ 1000000001 ∧ p = t.c + z.final ∧ 0 ≤ p ∧ p ≤ 200000000

set_option maxRecDepth 100000 in
set_option maxHeartbeats 8000000 in
theorem paid_any (v : Value) (m : MachL) (A1 : Option Addr) (c1 : Nat) (l : List Int) (w : World) (hm : MachAt w v m) (hv : Valid m) (hs : BSmall m) (h0 : 0 ≤ m.start) (hl : Rd w A1 l.length 1 (icells l)) (hll : l.length ≤ 100) :
    Calls Try.prog 25 #[v, .slice A1 l.length c1] w fun e w' => ∃ p, e = .returned (.int .i64 p) ∧ PaidR m m.start.toNat l p ∧ Below w.heap.size w w' := by
  obtain ⟨A, c, rfl, hS⟩ := hm
  have hsz := hv.size; have hst1 := hv.s1
  have HS := Lib.hid hS; have HV := Lib.hid hv; have HSM := Lib.hid hs; have HL := Lib.hid hl
  have rd := hS.rdy; have rdl := hl.rdy
  have HAL := Lib.hid (fun (s : StateL) (hs : s ∈ m.states) => (show s.arcs.length ≤ 400 by have h3 := hv.arcs; have := arcs_le_of m.states s hs; omega))
  obtain ⟨sn, hsn⟩ : ∃ sn : Nat, m.start = sn := ⟨m.start.toNat, by omega⟩
  have hsn2 : m.start.toNat = sn := by omega
  have hsl : sn < m.states.length := by omega
  rw [hsn2]
  rw [hsn]
  clear hS hv hs hsn hsn2 h0 hst1 hl
  go_enter Try.func25, Try.ntmps25
  go_wp2_with fail
  have M0 : Blk (w.alloc (.cells #[.int .i64 sn, .slice A m.states.length c] 31)) w.heap.size #[.int .i64 sn, .slice A m.states.length c] 31 := Blk.new _ _ _
  have b0 : Below w.heap.size w (w.alloc (.cells #[.int .i64 sn, .slice A m.states.length c] 31)) := (Below.refl _ _).alloc (Nat.le_refl _) _
  generalize w.alloc (.cells #[.int .i64 sn, .slice A m.states.length c] 31) = w1 at *
  have HM0 := Lib.hid M0; clear M0
  go_loopw [7, 6, 5] (fun kv cv qv wr => ∃ (k : Nat) (t : Trail), k ≤ l.length ∧ kv = .int .i64 k ∧ cv = .int .i64 t.c ∧ qv = .int .i64 t.q ∧ trun m sn (l.take k) = some t ∧ t.q < m.states.length ∧ 0 ≤ t.c ∧ t.c ≤ 1000000 * k ∧ Blk wr w.heap.size #[.int .i64 sn, .slice A m.states.length c] 31 ∧ Below w.heap.size w wr) (fun kv _ _ _ => l.length - (intOf kv).toNat)
  case atStart => exact ⟨0, ⟨sn, 0, [], []⟩, by omega, rfl, rfl, rfl, rfl, hsl, by simp, by simp, HM0.out, b0⟩
  case round =>
    obtain ⟨k, t, hk, rfl, rfl, rfl, htr, htq, hc0, hc1, hM, bel⟩ := hrel
    have HM := Lib.hid hM; have HTR := Lib.hid htr
    have j0 : (0 : Int) ≤ ↑k := by omega
    have km := hM.cell; have lm := hM.lt
    have hSr := HS.out.below bel (Nat.le_refl _)
    have d0 := hSr.c0 t.q htq
    obtain ⟨A', c', d1', hA'⟩ := HS.out.c1 t.q htq
    have d1 := cell_keep bel (Nat.le_refl _) d1'
    have hsq : m.states[t.q]? = some m.states[t.q] := List.getElem?_eq_getElem htq
    have hvs := HV.out.st _ (List.getElem_mem htq)
    have hss := HSM.out _ (List.getElem_mem htq)
    have hal := HAL.out _ (List.getElem_mem htq)
    have HSQ := Lib.hid hsq; have HVS := Lib.hid hvs; have HSS := Lib.hid hss; have HA := Lib.hid hA'
    have rdA := hA'.rdy
    generalize m.states[t.q] = s at *
    have lA := World.block_lt_of_cell? _ _ d0
    obtain ⟨q, c9, x, y⟩ := t
    simp only at *
    have i0 : (0 : Int) ≤ ↑q := by omega
    have i1 : (↑q : Int) < ↑m.states.length := by omega
    clear hSr hM htr d1' hA' hsq hvs hss
    by_cases hlt : k < l.length
    · have j1 : (↑k : Int) < ↑l.length := by omega
      have ck := cell_keep bel (Nat.le_refl _) (HL.out.at' (by simp [icells, hlt] : (icells l)[k]? = some (.int .i64 l[k])))
      have htk : l.take (k + 1) = l.take k ++ [l[k]] := List.take_succ_eq_append_getElem hlt
      have HTK := Lib.hid htk; clear htk
      have HSTOP := Lib.hid (fun h => trun_stop m sn l (k + 1) h)
      generalize l[k] = i at *
      have lcl := World.block_lt_of_cell? _ _ ck
      by_cases hok : 0 ≤ i ∧ i < s.arcs.length
      · obtain ⟨hi0, hi1⟩ := hok
        obtain ⟨p, rfl⟩ : ∃ p : Nat, i = p := ⟨i.toNat, by omega⟩
        have hpl : p < s.arcs.length := by omega
        have hAr := HA.out.below bel (Nat.le_refl _)
        have f0 := hAr.c0 p hpl; have f1 := hAr.c1 p hpl; have f2 := hAr.c2 p hpl; have f3 := hAr.c3 p hpl
        have hmem := List.getElem_mem hpl
        have hva := HVS.out.2 _ hmem; have hwa := HSS.out.2 _ hmem
        have hnew : trun m sn (l.take (k + 1)) = some ⟨s.arcs[p].to.toNat, c9 + s.arcs[p].wt, x ++ pre1 s.arcs[p].inn, y ++ pre1 s.arcs[p].out⟩ := by
          rw [HTK.out, trun_snoc, HTR.out]; exact tstep_ok HSQ.out hpl
        generalize s.arcs[p] = a at *
        obtain ⟨tn, htn⟩ : ∃ tn : Nat, a.to = tn := ⟨a.to.toNat, by have := hva.t0; omega⟩
        have htn2 : a.to.toNat = tn := by omega
        have htl : tn < m.states.length := by have := hva.t1; omega
        rw [htn2] at hnew
        rw [htn] at f3
        have HNEW := Lib.hid hnew
        have g1 := hva.w0
        have lA' := World.block_lt_of_cell? _ _ f0
        have hwr : IntKind.i64.wrap (c9 + a.wt) = c9 + a.wt := IntWalk.i64_in _ (by omega)
        have p0 : (0 : Int) ≤ ↑p := by omega
        have p1 : (↑p : Int) < ↑s.arcs.length := by omega
        have p2 : ¬ (↑p : Int) < 0 := by omega
        have p3 : ¬ (↑s.arcs.length : Int) ≤ ↑p := by omega
        clear hnew hva hmem hAr htn htn2
        go_upto_region 6 with fail
        go_quiet (fail)
        have bd := below_drewN wr nq
        have belD := bel.trans (bd.mono bel.size)
        have HMd := Lib.hid (HM.out.step bd)
        have km2 := HMd.out.cell; have lm2 := HMd.out.lt
        have e1 := cellB bd d1; have e2 := cellB bd ck; have e3 := cellB bd f0; have e4 := cellB bd f1; have e5 := cellB bd f2; have e6 := cellB bd f3
        clear km lm d0 d1 lA ck lcl f0 f1 f2 f3 lA' bd bel HM
        generalize wr.drewN nq = wd at *
        have lz1 := World.block_lt_of_cell? _ _ e1; have lz2 := World.block_lt_of_cell? _ _ e2; have lz3 := World.block_lt_of_cell? _ _ e3
        go_upto_region 8 with fail
        have km3 : wd.cell? ⟨w.heap.size, 1, none⟩ = some (.slice A m.states.length c) := km2 1
        clear km2
        have KS : ∀ W, Below wd.heap.size wd W → W.cell? ⟨w.heap.size, 1, none⟩ = some (.slice A m.states.length c) ∧ W.cell? ⟨blk A, ofs A + q * 2 + 1, none⟩ = some (.slice A' s.arcs.length c') ∧ W.cell? ⟨blk A1, ofs A1 + k, none⟩ = some (.int .i64 p) ∧ W.cell? ⟨blk A', ofs A' + p * 4, none⟩ = some (.int .i64 a.inn) ∧ W.cell? ⟨blk A', ofs A' + p * 4 + 1, none⟩ = some (.int .i64 a.out) ∧ W.cell? ⟨blk A', ofs A' + p * 4 + 2, none⟩ = some (.int .i64 a.wt) ∧ W.cell? ⟨blk A', ofs A' + p * 4 + 3, none⟩ = some (.int .i64 tn) ∧ Below wd.heap.size wd W := fun W q => ⟨cellB q km3, cellB q e1, cellB q e2, cellB q e3, cellB q e4, cellB q e5, cellB q e6, q⟩
        go_cut [8] (fun tv wx => ∃ ab, tv = .pointer (some ⟨ab, 0, none⟩) ∧ Blk wx ab #[.int .i64 a.inn, .int .i64 a.out, .int .i64 a.wt, .int .i64 tn] 92 ∧ Below wd.heap.size wd wx)
        case first =>
          go_region_held3 (fun W => W.cell? ⟨w.heap.size, 1, none⟩ = some (.slice A m.states.length c) ∧ W.cell? ⟨blk A, ofs A + q * 2 + 1, none⟩ = some (.slice A' s.arcs.length c') ∧ W.cell? ⟨blk A1, ofs A1 + k, none⟩ = some (.int .i64 p) ∧ W.cell? ⟨blk A', ofs A' + p * 4, none⟩ = some (.int .i64 a.inn) ∧ W.cell? ⟨blk A', ofs A' + p * 4 + 1, none⟩ = some (.int .i64 a.out) ∧ W.cell? ⟨blk A', ofs A' + p * 4 + 2, none⟩ = some (.int .i64 a.wt) ∧ W.cell? ⟨blk A', ofs A' + p * 4 + 3, none⟩ = some (.int .i64 tn) ∧ Below wd.heap.size wd W) (first | (exact KS _ (Below.refl _ _).drew) | (refine KS _ ?_; (try go_split_ands); (repeat' (first | assumption | exact Below.refl _ _ | refine Below.alloc ?_ (by first | exact Nat.le_refl _ | exact Below.size (show Below wd.heap.size wd _ by assumption)) _ | refine Below.setCell ?_ (by first | exact Nat.le_refl _ | exact Below.size (show Below wd.heap.size wd _ by assumption)) _ | refine Below.drew ?_)))) (first | fail)
          all_goals
            go_wp2_with fail
            go_meet
            case rel => exact ⟨_, rfl, (Blk.new _ _ _).drew, by go_split_ands; assumption⟩
        case rest =>
          obtain ⟨wz, rfl⟩ : ∃ wx : World, wx = wc := ⟨_, rfl⟩
          obtain ⟨ab, rfl, X9, b9⟩ := hcut
          have k9 := X9.cell; have l9 := X9.lt
          have HMz := Lib.hid (HMd.out.step b9)
          have belz := belD.trans (b9.mono belD.size)
          clear KS km3 e1 e2 e3 e4 e5 e6 lz1 lz2 lz3 HMd belD b9 X9 lm2
          go_wp2_with fail
          go_roundw
          case rel => exact ⟨k + 1, ⟨tn, c9 + a.wt, _, _⟩, by omega, by go_num, rfl, rfl, HNEW.out, htl, by simp only; omega, by simp only; omega, HMz.out, belz⟩
          case measure => simp [intOf]; omega
      · have HNO : Hid (PaidR m sn l 1000000001) := Lib.hid (.inl ⟨rfl, fun t' z h _ => by
          have h9 := HSTOP.out (by rw [HTK.out, trun_snoc, HTR.out]; exact tstep_bad HSQ.out (by omega))
          rw [h9] at h; cases h⟩)
        have hcs : (i < 0) ∨ (¬ i < 0 ∧ (s.arcs.length : Int) ≤ i) := by omega
        clear hok
        rcases hcs with g5 | ⟨g5, g6⟩
        all_goals
          go_upto_region 6 with fail
          go_quiet (fail)
          go_wp2_with fail
          go_ret
          exact ⟨_, rfl, HNO.out, bel.trans ((below_drewN _ _).mono bel.size)⟩
    · obtain rfl : k = l.length := by omega
      have j1 : ¬ (↑l.length : Int) < ↑l.length := by omega
      rw [List.take_of_length_le (Nat.le_refl _)] at HTR
      have hvf := HVS.out.1
      unfold ValidFinal at hvf
      have hsf := HSS.out.1
      have HB := Lib.hid (fun W => both_any c9 s.final W hc0 (by omega) (by omega) (by omega))
      have HP : Hid (PaidR m sn l (bothV c9 s.final)) := Lib.hid (by
        by_cases hf : s.final = 1000000001
        · refine .inl ⟨by unfold bothV; rw [if_pos (.inr hf)], fun t' z h hz => ?_⟩
          rw [HTR.out] at h; cases h
          simp only at hz
          rw [HSQ.out] at hz; cases hz
          exact hf
        · have e : bothV c9 s.final = c9 + s.final := by unfold bothV; rw [if_neg (by omega)]
          exact .inr ⟨_, s, HTR.out, HSQ.out, hf, e, by omega, by omega⟩)
      clear hvf hsf
      go_wp2_with fail
      refine (HB.out _).mono ?_; rintro e w9 ⟨rfl, rfl⟩
      go_wp2_with fail
      go_ret
      exact ⟨_, rfl, HP.out, bel⟩
end Go.Proofs.Ytndajklppipckaa
