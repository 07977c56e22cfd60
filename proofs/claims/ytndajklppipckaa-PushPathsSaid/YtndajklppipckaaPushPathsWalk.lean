/- The walk of PushPaths. -/
import Derived.Test.YtndajklppipckaaCostsRiseWalk
import Derived.Test.YtndajklppipckaaWholeAll
import Derived.Test.YtndajklppipckaaPush
import Derived.Test.YtndajklppipckaaForward
namespace Go.Proofs.Ytndajklppipckaa
open Go.RowKit

/-- all that the walk needs of m and of x, pushed from it -/
structure PP (m x : MachL) (total : Int) (T : Nat) : Prop where
  xv : Valid x
  xs : ∀ q c, Way (endsFirst x) (endsE x) q c → ∃ c', Way (endsFirst x) (endsE x) q c' ∧ c' ≤ 1000000000
  paths : ∀ v W, MachAt W v x → Calls Try.prog 37 #[v] W fun e w' => e = .returned (.tuple #[.int .i64 T, .int .i64 0]) ∧ Below W.heap.size W w'
  costs : ∀ v W, MachAt W v x → Calls Try.prog 28 #[v, .int .i64 5] W fun e w' => ∃ ov, e = .returned (.tuple #[ov, .int .i64 0]) ∧ CostsR x 5 W.heap.size w' ov ∧ Below W.heap.size W w'
  same : ∀ ps qs, Cheap (Whole m m.start.toNat) (wcost m m.start.toNat) 5 ps → Cheap (Whole x x.start.toNat) (wcost x x.start.toNat) 5 qs → ps.length = min T 5 ∧ ps.map (wcost m m.start.toNat) = (qs.map (wcost x x.start.toNat)).map (· + total)
theorem pp_of {m : MachL} (h : FwdSmall m) (h6 : m.states.length ≤ 6) (hs : Small m) {M : Nat → Nat} (hC : Counts m 0 M) {d : List Int} (hd : DOk d (trimM m)) {n : Int} (hn : n = if (trimM m).start < 0 then 0 else d.getD (trimM m).start.toNat 0) : PP m (pushM d (trimM m)) n (tot m M) := by
  obtain ⟨hxv, -, hxz, -, hxs, hxl⟩ := push_pack h.v hs hd
  have hms : m.start.toNat = 0 := by rw [h.s0]; rfl
  have hl6 : (trimM m).states.length ≤ m.states.length := trim_len_le (keepOf_len m)
  obtain ⟨bw, bf⟩ := push_bounds (trim_valid h.v) (trim_small hs) (by omega) hd
  have hxw : ∀ q c, Way (endsFirst (pushM d (trimM m))) (endsE (pushM d (trimM m))) q c → ∃ c', Way (endsFirst (pushM d (trimM m))) (endsE (pushM d (trimM m))) q c' ∧ c' ≤ 1000000000 := fun q c hw => ⟨0, hxz q (way_lt hxv hw), by omega⟩
  obtain ⟨L, l1, l2, l3⟩ := ways_all h hC
  have plen : ∀ ps, Cheap (Whole m 0) (wcost m 0) 5 ps → ps.length = min (tot m M) 5 := fun ps hp => by
    have := cheap_len hp l1 l2
    omega
  by_cases hk : (keepOf m).getD 0 false = true
  · have hf := fwd_x h hk hxv
    have hxst : (pushM d (trimM m)).start.toNat = 0 := by rw [hf.s0]; rfl
    have hts : (trimM m).start = 0 := by rw [← hxs]; exact hf.s0
    rw [hts, if_neg (by omega)] at hn
    obtain ⟨M', hC', hb1, hb2⟩ := fwd_counts hf
    obtain ⟨L', m1, m2, m3⟩ := ways_all hf hC'
    have hTT : tot m M = tot (pushM d (trimM m)) M' := by
      rw [← l3, ← m3]
      exact pp_len h.v h.s0 h.n1 hk hd l1 l2 m1 m2
    refine ⟨hxv, hxw, fun v W hm => ?_, fun v W hm => ?_, fun ps qs hp hq => ?_⟩
    · rw [hTT]
      exact Paths_any v _ W hm hxv 0 hf.s0 M' hC' (fun q hq => by have := hb1 q hq; omega) (by omega) (fun S hS => fwd_not_stuck hf.f hS)
    · have hsz : 5 * (pushM d (trimM m)).states.length ≤ 5 * 6 := Nat.mul_le_mul (Nat.le_refl _) (by omega)
      exact Costs_any v _ 5 9000000 1000000 4 W hm hxv hxw (by rw [hf.s0]; exact Int.le_refl _) (by omega) (by omega) (by omega) bw bf hf.a4 (by omega) (by omega)
    · rw [hms, hxst] at *
      refine ⟨plen ps hp, ?_⟩
      rw [hn]
      exact pp_cheap h.v h.s0 h.n1 hk hd hp hq
  · have hno := pp_none h.v h.s0 hk
    have hts : (trimM m).start < 0 := by
      show (if 0 ≤ m.start then num (keepOf m) m.start.toNat else -1) < 0
      rw [h.s0, if_pos (Int.le_refl 0)]
      show num (keepOf m) 0 < 0
      rw [num_lost hk]; omega
    have htl := (trim_start h.v).1 hts
    rw [htl] at hxl
    have hT0 : tot m M = 0 := by
      rw [← l3]
      cases L with
      | nil => rfl
      | cons p L => exact absurd ((l2 p).1 (by simp)) (hno p)
    have hxn : ∀ s p, ¬ Whole (pushM d (trimM m)) s p := fun s p hw => by
      have := finI_lt hw.2
      omega
    refine ⟨hxv, hxw, fun v W hm => ?_, fun v W hm => ?_, fun ps qs hp hq => ?_⟩
    · rw [hT0]
      refine Paths_none v _ W hm hxv hxl (fun S hS => ?_)
      obtain ⟨⟨q, hq⟩, hst⟩ := hS
      have := (hst q hq).1
      omega
    · exact Costs_none v _ 5 W hm hxv hxw (by rw [hxs]; exact hts) (by omega) (hxn _)
    · rw [hms] at hp ⊢
      have e1 : ps = [] := by
        cases ps with
        | nil => rfl
        | cons p ps => exact absurd (hp.all p (by simp)) (hno p)
      have e2 : qs = [] := by
        cases qs with
        | nil => rfl
        | cons p qs => exact absurd (hq.all p (by simp)) (hxn _ p)
      subst e1; subst e2
      exact ⟨by rw [hT0]; rfl, rfl⟩
namespace pushPaths
set_option maxRecDepth 100000 in
set_option maxHeartbeats 8000000 in
theorem walk {w : World} (v : Value) (r : RawL) (hr : RawArg w v r) :
    Calls Try.prog 12 #[v] w fun e w' => e = .returned (.bool true) ∧ Below w.heap.size w w' := by
  have HMF := Lib.hid (fun W hb => forward_any v r 6 W (hr.below hb) (by omega) (by omega))
  have hfs : FwdSmall (fwdM (mkMach r 6 false)) := fwdSmall_madeK r 6 (by omega) (by omega)
  have hsm : Small (fwdM (mkMach r 6 false)) := small_fwd (small_made r 6 false)
  have hl6 : (fwdM (mkMach r 6 false)).states.length ≤ 6 := by
    rw [fwdM_len]
    have h1 := mkMach_len r 6 false (by omega)
    have : mkN r 6 ≤ 6 := by unfold mkN; omega
    omega
  obtain ⟨hst, hlen, A, c, rfl, hN⟩ := hr
  generalize fwdM (mkMach r 6 false) = m at *
  obtain ⟨M, hC, hb1, hb2⟩ := fwd_counts hfs
  have hv := hfs.v
  have HPM := Lib.hid (fun W u (h : MachAt W u m) => Paths_any u m W h hv 0 hfs.s0 M hC (fun q hq => by have := hb1 q hq; omega) (by omega) (fun S hS => fwd_not_stuck hfs.f hS))
  have htv := trim_valid hv
  have hts := trim_small hsm
  have HPA := Lib.hid (fun W u (h : MachAt W u m) => Push_any u m W h hv (ends_small' htv hts) (fun s h a ha => by have := (hts s h).2 a ha; omega))
  have HPP := Lib.hid (fun d n hd hn => pp_of hfs hl6 hsm hC (d := d) (n := n) hd hn)
  have HCM := Lib.hid (fun W u (h : MachAt W u m) => costs_small u m 5 W h hv hsm (by rw [hfs.s0]; exact Int.le_refl _) (by omega) (by omega) (fun s hs => by have := hfs.a4 s hs; omega))
  have HLE := Lib.hid (fun W u (h : MachAt W u m) => Least_any u m W h hv (ends_small hv hsm) (by rw [hfs.s0]; exact Int.le_refl _))
  have HDI := Lib.hid (fun D ps hC hD => cheap_dist (s := m.start.toNat) (n := 5) (d := D) (ps := ps) hv hC (by omega) hD)
  have hTb : tot m M ≤ 625000 := hb2
  have HWB : Hid (∀ p, Whole m m.start.toNat p → 0 ≤ wcost m m.start.toNat p ∧ wcost m m.start.toNat p ≤ 9000000) := Lib.hid (fun p hw => by
    have e : m.start.toNat = 0 := by rw [hfs.s0]; rfl
    rw [e] at hw ⊢
    exact whole_bound hfs hsm hw)
  have hdb : ∀ d n, DOk d (trimM m) → (n = if (trimM m).start < 0 then (0 : Int) else d.getD (trimM m).start.toNat 0) → 0 ≤ n ∧ n ≤ 8000000 := fun d n hd hn => by
    have hl := trim_len_le (keepOf_len m)
    have h1 := htv.s1
    rw [hn]
    split
    · omega
    · exact dok_small htv hts (Nat.le_trans hl (by omega)) hd _ (by omega)
  have HDB := Lib.hid hdb
  generalize tot m M = T at *
  clear hN hst hlen hfs hsm hl6 hC hb1 hb2 hv htv hts hdb
  generalize trimM m = t at *
  go_enter Try.func12, Try.ntmps12
  go_wp2_with fail
  refine (HMF.out _ (by repeat' (first | exact Below.refl _ _ | assumption | refine Below.drew ?_ | refine Below.alloc ?_ (by first | omega | (simp; done) | (simp; omega)) _ | refine Below.setCell ?_ (by first | omega | (simp; done) | (simp; omega)) _))).mono ?_; rintro e w1 ⟨mv, rfl, o1, r1⟩
  obtain ⟨A1, c1, rfl, s1⟩ := own_open o1
  have b1 : Below w.heap.size w w1 := ((by repeat' (first | exact Below.refl _ _ | assumption | refine Below.drew ?_ | refine Below.alloc ?_ (by first | omega | (simp; done) | (simp; omega)) _ | refine Below.setCell ?_ (by first | omega | (simp; done) | (simp; omega)) _)) : Below w.heap.size w _).trans (r1.mono (by simp))
  have X1 := Lib.hid (MBox.new (c := c1) s1)
  have b1a := b1.alloc b1.size (.cells #[.int .i64 m.start, .slice A1 m.states.length c1] 31)
  clear o1 r1 HMF s1
  go_wp2_with fail
  refine (HPA.out _ _ X1.out.mach).mono ?_; rintro e w2 ⟨xv, n, rfl, hp, r2⟩
  obtain ⟨d1, o2, hd1, hn1⟩ := hp
  have hpp := HPP.out d1 n hd1 hn1
  obtain ⟨n0, n1⟩ := HDB.out d1 n hd1 hn1
  generalize pushM d1 t = x at *
  obtain ⟨A2, c2, rfl, s2⟩ := own_open o2
  have b2 : Below w.heap.size w w2 := b1a.trans (r2.mono b1a.size)
  have Y2 := Lib.hid (MBox.new (c := c2) s2)
  have X2 := Lib.hid ((X1.out.step r2).alloc (.cells #[.int .i64 x.start, .slice A2 x.states.length c2] 31))
  have b2a := b2.alloc b2.size (.cells #[.int .i64 x.start, .slice A2 x.states.length c2] 31)
  have HPX := Lib.hid hpp.paths; have HCX := Lib.hid hpp.costs; have HSAME := Lib.hid hpp.same
  have kx := (X1.out.step r2).blk.cell; have lx := (X1.out.step r2).blk.lt
  clear o2 s2 X1 b1a r2 hd1 hn1 hpp HPP HDB HPA b1
  go_wp2_with fail
  clear kx lx
  generalize w2.alloc (.cells #[.int .i64 x.start, .slice A2 x.states.length c2] 31) = w2a at *
  generalize w1.heap.size = bm at *
  generalize w2.heap.size = bx at *
  refine (HPM.out _ _ X2.out.mach).mono ?_; rintro e w3 ⟨rfl, r3⟩
  have b3 : Below w.heap.size w w3 := b2a.trans (r3.mono b2a.size)
  have X3 := Lib.hid (X2.out.step r3); have Y3 := Lib.hid (Y2.out.step r3)
  have ky := Y3.out.blk.cell; have ly := Y3.out.blk.lt
  clear r3 X2 Y2 b2 b2a HPM
  go_wp2_with fail
  clear ky ly
  refine (HPX.out _ _ Y3.out.mach).mono ?_; rintro e w4 ⟨rfl, r4⟩
  have b4 : Below w.heap.size w w4 := b3.trans (r4.mono b3.size)
  have X4 := Lib.hid (X3.out.step r4); have Y4 := Lib.hid (Y3.out.step r4)
  have kx := X4.out.blk.cell; have lx := X4.out.blk.lt
  clear r4 X3 Y3 b3 HPX
  go_wp2_with fail
  clear kx lx
  refine (HCM.out _ _ X4.out.mach).mono ?_; rintro e w5 ⟨ov1, rfl, R1, r5⟩
  obtain ⟨A6, c6, ps, la, rfl, hla, rd1, hla2, hps⟩ := R1.open
  have b5 : Below w.heap.size w w5 := b4.trans (r5.mono b4.size)
  have X5 := Lib.hid (X4.out.step r5); have Y5 := Lib.hid (Y4.out.step r5)
  have RA5 := Lib.hid rd1; have HLA := Lib.hid hla2; have HPS := Lib.hid hps
  have ky := Y5.out.blk.cell; have ly := Y5.out.blk.lt
  clear R1 r5 X4 Y4 rd1 hla2 hps b4 HCM
  go_wp2_with fail
  clear ky ly
  refine (HCX.out _ _ Y5.out.mach).mono ?_; rintro e w6 ⟨ov2, rfl, R2, r6⟩
  obtain ⟨A7, c7, qs, lb, rfl, hlb, rd2, hlb2, hqs⟩ := R2.open
  have b6 : Below w.heap.size w w6 := b5.trans (r6.mono b5.size)
  have X6 := Lib.hid (X5.out.step r6)
  have RA6 := Lib.hid (RA5.out.below r6 rfl); have RB6 := Lib.hid rd2
  obtain ⟨hpl, hsm⟩ := HSAME.out ps qs HPS.out hqs
  rw [← HLA.out, ← hlb2] at hsm
  have hal : la.length = ps.length := by rw [HLA.out, List.length_map]
  have kx := X6.out.blk.cell; have lx := X6.out.blk.lt
  have HSM := Lib.hid hsm; have HPL := Lib.hid (hal.trans hpl)
  have hbl : lb.length = la.length := by rw [hsm, List.length_map]
  have HBL := Lib.hid hbl
  clear R2 r6 X5 Y5 RA5 rd2 hlb2 hqs b5 HCX HSAME hpl hsm hal hbl
  go_wp2_with fail
  clear kx lx
  refine (HLE.out _ _ X6.out.mach).mono ?_; rintro e w7 ⟨D, rfl, hD, r7⟩
  have b7 : Below w.heap.size w w7 := b6.trans (r7.mono b6.size)
  have RA := Lib.hid (RA6.out.below r7 rfl); have RB := Lib.hid (RB6.out.below r7 rfl)
  have HBD : Hid (∀ i (h : i < la.length), 0 ≤ la[i] ∧ la[i] ≤ 9000000) := Lib.hid (fun i h => by
    have h1 : la[i] ∈ ps.map (wcost m m.start.toNat) := by rw [← HLA.out]; exact List.getElem_mem h
    obtain ⟨p, hp, e⟩ := List.mem_map.1 h1
    rw [← e]; exact HWB.out p (HPS.out.all p hp))
  have hfin : (T = 0 ∧ D = 1000000001) ∨ (0 < T ∧ (D == 1000000001) = false) := by
    have h9 := HPL.out
    have h8 : la.length = ps.length := by rw [HLA.out, List.length_map]
    rcases HDI.out D ps HPS.out hD with ⟨h1, h2⟩ | ⟨h1, p, ts, h2, -⟩
    · left; rw [h2, List.length_nil] at h8; exact ⟨by omega, h1⟩
    · right; rw [h2, List.length_cons] at h8; exact ⟨by omega, by simpa using h1⟩
  have HFIN := Lib.hid hfin
  clear hD r7 RA6 RB6 HLA HPS HDI HLE X6 b6 hfin
  go_upto_region 8 with fail
  go_cut [87] (fun bv wx => bv = .bool false ∧ wx = w7)
  case first =>
    have e1 : ((lb.length : Int) == (la.length : Int)) = true := by rw [beq_iff_eq, HBL.out]
    have e2 : ((la.length : Int) == (lb.length : Int)) = true := by rw [beq_iff_eq, HBL.out]
    go_wp2_with fail
    all_goals
      go_meet
      case rel => first | exact ⟨rfl, rfl⟩ | (refine ⟨congrArg Value.bool (bne_eq_false_iff_eq.2 ?_), rfl⟩; have := HPL.out; have := HBL.out; omega) | (exfalso; have := HPL.out; have := HBL.out; omega)
  case rest =>
    obtain ⟨rfl, rfl⟩ := hcut
    obtain ⟨w7, rfl⟩ : ∃ wb : World, wb = wc := ⟨_, rfl⟩
    go_upto_region 10 with fail
    go_cut [96] (fun bv wx => bv = .bool false ∧ wx = w7)
    case first =>
      rcases HFIN.out with ⟨rfl, rfl⟩ | ⟨h1, h2⟩
      · go_wp2_with fail
        go_meet
        case rel => exact ⟨rfl, rfl⟩
      · have h3 : (0 : Int) < (T : Int) := by omega
        go_wp2_with fail
        go_meet
        case rel => exact ⟨by simp only [bne, h2]; rfl, rfl⟩
    case rest =>
      obtain ⟨rfl, rfl⟩ := hcut
      obtain ⟨w7, rfl⟩ : ∃ wb : World, wb = wc := ⟨_, rfl⟩
      have rda := RA.out.rdy; have rdb := RB.out.rdy
      go_upto_region 13 with fail
      go_loopw [17] (fun iv wx => ∃ i : Nat, i ≤ la.length ∧ iv = .int .i64 i ∧ Below w7.heap.size w7 wx) (fun iv _ => la.length - (intOf iv).toNat)
      case atStart => exact ⟨0, by omega, rfl, Below.refl _ _⟩
      case round =>
        obtain ⟨i, hi, rfl, hbl⟩ := hrel
        by_cases hlt : i < la.length
        · have i0 : (0 : Int) ≤ (i : Int) := by omega
          have i1 : (i : Int) < (la.length : Int) := by omega
          have hltb : i < lb.length := by have := HBL.out; omega
          have i2 : (i : Int) < (lb.length : Int) := by omega
          have hwi : IntKind.i64.wrap (↑i + 1) = ↑i + 1 := IntWalk.i64_in _ (by omega)
          have ca := cell_keep hbl (Nat.le_refl _) (RA.out.at' (show (icells la)[i]? = some (.int .i64 la[i]) by simp [icells, hlt]))
          have cb := cell_keep hbl (Nat.le_refl _) (RB.out.at' (show (icells lb)[i]? = some (.int .i64 lb[i]) by simp [icells, hltb]))
          have hz : la[i] = lb[i] + n := by simp only [HSM.out, List.getElem_map]
          have hbd := HBD.out i hlt
          have hwrap : IntKind.i64.wrap (lb[i] + n) = lb[i] + n := IntWalk.i64_in _ (by omega)
          clear hbd
          rw [hz] at ca
          generalize lb[i] = y at *
          clear hz
          go_upto_region 15 with fail
          go_quiet (fail)
          have bel3 := hbl.trans ((below_drewN wr nq).mono hbl.size)
          clear ca cb
          go_wp2_with fail
          go_roundw
          case rel => exact ⟨i + 1, by omega, by go_num, bel3⟩
          case measure => simp [intOf]; omega
        · obtain rfl : i = la.length := by omega
          have j1 : ¬ (↑la.length : Int) < ↑la.length := by omega
          go_wp2_with fail
          go_ret
          exact ⟨rfl, b7.trans (hbl.mono b7.size)⟩
end pushPaths
end Go.Proofs.Ytndajklppipckaa
