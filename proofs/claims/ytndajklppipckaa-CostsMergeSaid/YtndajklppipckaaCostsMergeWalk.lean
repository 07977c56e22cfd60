/- The walk of CostsMerge. -/
import Derived.Test.YtndajklppipckaaCostsRiseWalk
import Derived.Test.YtndajklppipckaaCostsUnion
import Derived.Test.YtndajklppipckaaUnion
namespace Go.Proofs.Ytndajklppipckaa
open Go.RowKit

theorem made_sizes (r : RawL) (k : Int) (k1 : 1 ≤ k) : (mkMach r k false).states.length ≤ k.toNat ∧ arcsOf (mkMach r k false).states ≤ 4 * k.toNat := by
  have h1 := mkMach_len r k false k1
  have h2 : mkN r k ≤ k ∧ 1 ≤ mkN r k := by unfold mkN; omega
  have h3 := sum_le4 _ (mk_arcs_small r k false)
  refine ⟨by omega, by omega⟩
namespace costsMerge
set_option maxRecDepth 100000 in
set_option maxHeartbeats 8000000 in
theorem walk {w : World} (v1 : Value) (r1 : RawL) (hr1 : RawArg w v1 r1) (v2 : Value) (r2 : RawL) (hr2 : RawArg w v2 r2) (x : Int) (hx : (Lit.int .i64 x).wf = true) :
    Calls Try.prog 9 #[v1, v2, .int .i64 x] w fun e w' => e = .returned (.bool true) ∧ Below w.heap.size w w' := by
  have hma : Valid (mkMach r1 4 false) := valid_made r1 4 false (by omega) (by omega)
  have hmb : Valid (mkMach r2 4 false) := valid_made r2 4 false (by omega) (by omega)
  have hsa : Small (mkMach r1 4 false) := small_made r1 4 false
  have hsb : Small (mkMach r2 4 false) := small_made r2 4 false
  have ha0 : 0 ≤ (mkMach r1 4 false).start := pick_lo _ _ (by unfold mkN; omega)
  have hb0 : 0 ≤ (mkMach r2 4 false).start := pick_lo _ _ (by unfold mkN; omega)
  have hza := made_sizes r1 4 (by omega)
  have hzb := made_sizes r2 4 (by omega)
  have hA4 : ∀ s ∈ (mkMach r1 4 false).states, s.arcs.length ≤ 20 := fun s hs => by have := mk_arcs_small r1 4 false s hs; omega
  have hB4 : ∀ s ∈ (mkMach r2 4 false).states, s.arcs.length ≤ 20 := fun s hs => by have := mk_arcs_small r2 4 false s hs; omega
  have HMA := Lib.hid (fun W hb => made_any v1 r1 4 false W (hr1.below hb) (by omega) (by omega))
  have HMB := Lib.hid (fun W hb => made_any v2 r2 4 false W (hr2.below hb) (by omega) (by omega))
  obtain ⟨-, -, A, c, rfl, -⟩ := hr1
  obtain ⟨-, -, B, d, rfl, -⟩ := hr2
  generalize mkMach r1 4 false = a at *
  generalize mkMach r2 4 false = b at *
  obtain ⟨hza1, hza2⟩ := hza
  obtain ⟨hzb1, hzb2⟩ := hzb
  have hza1' : a.states.length ≤ 4 := by simpa using hza1
  have hzb1' : b.states.length ≤ 4 := by simpa using hzb1
  have hza2' : arcsOf a.states ≤ 16 := by simpa using hza2
  have hzb2' : arcsOf b.states ≤ 16 := by simpa using hzb2
  have hs1 := hma.s1
  have hVU := union_valid hma hmb (by omega) (by omega)
  have HVA := Lib.hid hma; have HVB := Lib.hid hmb
  have HSA := Lib.hid hsa; have HSB := Lib.hid hsb
  have HVU := Lib.hid hVU
  have HA0 := Lib.hid ha0; have HB0 := Lib.hid hb0
  have hul : ((unionM a b).states.length : Int) = 1 + a.states.length + b.states.length := by rw [union_len]; simp
  have HCA := Lib.hid (fun v n w hm (hn : n ≤ 20) => costs_small v a n w hm hma hsa ha0 hn (by omega) hA4)
  have HCB := Lib.hid (fun v n w hm (hn : n ≤ 20) => costs_small v b n w hm hmb hsb hb0 hn (by omega) hB4)
  have HCU := Lib.hid (fun v n w hm (hn : n ≤ 20) => costs_small v (unionM a b) n w hm hVU (small_union hsa hsb) (Int.le_refl 0) hn (by omega) (arcs_union (by omega) hA4 hB4))
  have HLE := Lib.hid (fun v w hm => Least_any v a w hm hma (ends_small hma hsa) ha0)
  obtain ⟨n, hn⟩ : ∃ n : Nat, pick x 21 = n := ⟨(pick x 21).toNat, by have := pick_lo x 21 (by omega); omega⟩
  have hn20 : n ≤ 20 := by have := pick_hi x 21 (by omega); omega
  obtain ⟨x1, x2⟩ := wf_i64 hx
  have PK := Lib.hid (fun W => picked_any x 21 W x1 x2 (by omega) (by omega))
  rw [hn] at PK
  have hgt : (2 : Int) ≤ ((unionM a b).states.length : Int) := by have : (0:Int) < a.states.length := by omega
                                                                  omega
  have HMERGE := Lib.hid (fun ps qs us hA hB hU => union_cheap (n := n) (ps := ps) (qs := qs) (us := us) hma hmb ha0 hb0 hA hB hU)
  have HDIST := Lib.hid (fun D ps hn0 hC hD => cheap_dist (n := n) (d := D) (ps := ps) (s := a.start.toNat) hma hC hn0 hD)
  have HUS : Hid ((unionM a b).start.toNat = 0) := Lib.hid rfl
  clear hma hmb hsa hsb hza1 hza2 hzb1 hzb2 hx hul hA4 hB4 hn hVU ha0 hb0 hs1 x1 x2 hza1' hzb1' hza2' hzb2'
  generalize hum : unionM a b = u at *
  have HUM := Lib.hid hum; clear hum
  go_enter Try.func9, Try.ntmps9
  go_wp2_with fail
  refine (HMA.out _ (by repeat' (first | exact Below.refl _ _ | assumption | refine Below.drew ?_ | refine Below.alloc ?_ (by first | omega | (simp; done) | (simp; omega)) _ | refine Below.setCell ?_ (by first | omega | (simp; done) | (simp; omega)) _))).mono ?_; rintro e w1 ⟨mv, rfl, o1, q1⟩
  obtain ⟨A3, c3, rfl, s1⟩ := own_open o1
  have b1 : Below w.heap.size w w1 := ((by repeat' (first | exact Below.refl _ _ | assumption | refine Below.drew ?_ | refine Below.alloc ?_ (by first | omega | (simp; done) | (simp; omega)) _ | refine Below.setCell ?_ (by first | omega | (simp; done) | (simp; omega)) _)) : Below w.heap.size w _).trans (q1.mono (by simp; omega))
  have hz : Hid (Blk w1 (w.heap.size + 1) #[.int .i64 r2.start, .slice B r2.nodes.length d] 24) := Lib.hid (Blk.step (Blk.new' (by simp)) q1)
  have X1 := Lib.hid (MBox.new (c := c3) s1)
  have b1a := b1.alloc b1.size (.cells #[.int .i64 a.start, .slice A3 a.states.length c3] 31)
  have kz := hz.out.cell; have lz := hz.out.lt
  clear o1 q1 HMA s1
  go_wp2_with fail
  clear kz lz
  refine (HMB.out _ b1a).mono ?_; rintro e w2 ⟨mv2, rfl, o2, q2⟩
  obtain ⟨A4, c4, rfl, s2⟩ := own_open o2
  have b2 : Below w.heap.size w w2 := b1a.trans (q2.mono b1a.size)
  have Y2 := Lib.hid (MBox.new (c := c4) s2)
  have X2 := Lib.hid ((X1.out.step q2).alloc (.cells #[.int .i64 b.start, .slice A4 b.states.length c4] 31))
  have b2a := b2.alloc b2.size (.cells #[.int .i64 b.start, .slice A4 b.states.length c4] 31)
  have kx := (X1.out.step q2).blk.cell; have lx2 := (X1.out.step q2).blk.lt
  clear o2 q2 HMB s2 X1 b1a b1 hz
  go_wp2_with fail
  clear kx lx2
  refine (PK.out _).mono ?_; rintro e w2b ⟨rfl, rfl⟩
  generalize w2.alloc (.cells #[.int .i64 b.start, .slice A4 b.states.length c4] 31) = w2c at *
  generalize w1.heap.size = ma at *
  generalize w2.heap.size = mb at *
  have kx := X2.out.blk.cell; have lx := X2.out.blk.lt; have ky := Y2.out.blk.cell; have ly := Y2.out.blk.lt
  go_wp2_with fail
  clear kx lx ky ly
  refine (Union_any _ _ a b _ X2.out.mach Y2.out.mach HVA.out HVB.out (by rw [HUM.out]; exact HVU.out)).mono ?_; rintro e w3 ⟨mv3, rfl, o3, q3⟩
  rw [HUM.out] at o3
  obtain ⟨A5, c5, rfl, s3⟩ := own_open o3
  have b3 : Below w.heap.size w w3 := b2a.trans (q3.mono b2a.size)
  have X3 := Lib.hid (X2.out.step q3); have Y3 := Lib.hid (Y2.out.step q3)
  have S3 := Lib.hid s3
  clear o3 q3 s3 X2 Y2 b2 b2a
  go_upto_region 5 with fail
  have U3 : Hid (MBox (w3.alloc (.cells #[.int .i64 u.start, .slice A5 u.states.length c5] 31)) w3.heap.size A5 c5 u) := Lib.hid (MBox.new S3.out)
  have X4 := Lib.hid (X3.out.alloc (.cells #[.int .i64 u.start, .slice A5 u.states.length c5] 31))
  have Y4 := Lib.hid (Y3.out.alloc (.cells #[.int .i64 u.start, .slice A5 u.states.length c5] 31))
  have b4 := b3.alloc b3.size (.cells #[.int .i64 u.start, .slice A5 u.states.length c5] 31)
  clear S3 X3 Y3 b3
  generalize w3.alloc (.cells #[.int .i64 u.start, .slice A5 u.states.length c5] 31) = w4 at *
  generalize w3.heap.size = mu at *
  have kx := X4.out.blk.cell; have lx := X4.out.blk.lt
  go_wp2_with fail
  clear kx lx
  refine (HCA.out _ n _ X4.out.mach hn20).mono ?_; rintro e w5 ⟨ov1, rfl, R1, r5⟩
  obtain ⟨A6, c6, ps, la, rfl, hla, rd1, hla2, hps⟩ := R1.open
  have b5 : Below w.heap.size w w5 := b4.trans (r5.mono b4.size)
  have X5 := Lib.hid (X4.out.step r5); have Y5 := Lib.hid (Y4.out.step r5); have U5 := Lib.hid (U3.out.step r5)
  have RA5 := Lib.hid rd1; have HLA := Lib.hid hla2; have HPS := Lib.hid hps
  have ky := Y5.out.blk.cell; have ly := Y5.out.blk.lt
  clear R1 r5 X4 Y4 U3 rd1 hla2 hps b4 HCA
  go_wp2_with fail
  clear ky ly
  refine (HCB.out _ n _ Y5.out.mach hn20).mono ?_; rintro e w6 ⟨ov2, rfl, R2, r6⟩
  obtain ⟨A7, c7, qs, lb, rfl, hlb, rd2, hlb2, hqs⟩ := R2.open
  have b6 : Below w.heap.size w w6 := b5.trans (r6.mono b5.size)
  have X6 := Lib.hid (X5.out.step r6); have U6 := Lib.hid (U5.out.step r6)
  have RA6 := Lib.hid (RA5.out.below r6 rfl); have RB6 := Lib.hid rd2; have HLB := Lib.hid hlb2; have HQS := Lib.hid hqs
  have ku := U6.out.blk.cell; have lu := U6.out.blk.lt
  clear R2 r6 X5 Y5 U5 RA5 rd2 hlb2 hqs b5 HCB
  go_wp2_with fail
  clear ku lu
  refine (HCU.out _ n _ U6.out.mach hn20).mono ?_; rintro e w7 ⟨ov3, rfl, R3, r7⟩
  obtain ⟨A8, c8, us, lc, rfl, hlc, rd3, hlc2, hus⟩ := R3.open
  rw [HUS.out] at hlc2 hus
  have b7 : Below w.heap.size w w7 := b6.trans (r7.mono b6.size)
  have X7 := Lib.hid (X6.out.step r7); have U7 := Lib.hid (U6.out.step r7)
  have RA := Lib.hid (RA6.out.below r7 rfl); have RB := Lib.hid (RB6.out.below r7 rfl); have RC := Lib.hid rd3
  have hmm := HMERGE.out ps qs us HPS.out HQS.out hus
  rw [← HLA.out, ← HLB.out, ← hlc2] at hmm
  have hml : (mergeL id la lb).length = la.length + lb.length := by rw [(mergeL_perm id la lb).length_eq, List.length_append]
  have HD := Lib.hid (fun D (hn0 : 0 < n) hD => by have := HDIST.out D ps hn0 HPS.out hD; rw [show (ps = []) = (la = []) by rw [HLA.out]; simp] at this; exact this)
  have hcl : lc.length = min n (la.length + lb.length) := by rw [hmm, List.length_take, hml]
  have HPL : Hid (ps.length = la.length) := Lib.hid (by rw [HLA.out, List.length_map])
  have hca := HPS.out.len; have hcb := HQS.out.len
  rw [show ps.length = la.length by rw [HLA.out, List.length_map]] at hca
  rw [show qs.length = lb.length by rw [HLB.out, List.length_map]] at hcb
  have HMM := Lib.hid hmm; have HML := Lib.hid hml
  clear R3 r7 X6 U6 RA6 RB6 rd3 hlc2 hus HCU HMERGE HDIST HPS HQS HLA HLB b6 hmm hml
  have HCL := Lib.hid hcl; clear hcl
  have ku := U7.out.blk.cell; have lu := U7.out.blk.lt
  have g2 : ¬ ((u.states.length : Int)) < 2 := by omega
  go_upto_region 8 with fail
  go_cut [84] (fun bv wx => bv = .bool false ∧ wx = w7)
  case first =>
    have hwr : IntKind.i64.wrap (↑la.length + ↑lb.length) = ↑la.length + ↑lb.length := IntWalk.i64_in _ (by omega)
    have e1 : ((lc.length : Int) == min (n : Int) ((la.length : Int) + (lb.length : Int))) = true := by have := HCL.out; rw [beq_iff_eq]; omega
    have HWR := Lib.hid hwr
    go_wp2_with fail
    all_goals
      go_meet
      case rel => exact ⟨by have := HWR.out; have := HCL.out; simp; omega, rfl⟩
  case rest =>
    obtain ⟨rfl, rfl⟩ := hcut
    obtain ⟨w7, rfl⟩ : ∃ wb : World, wb = wc := ⟨_, rfl⟩
    clear ku lu g2
    have rda := RA.out.rdy; have rdb := RB.out.rdy; have rdc := RC.out.rdy
    go_upto_region 13 with fail
    go_loopw [18, 19, 20] (fun iv jv tv wx => ∃ i j t : Nat, iv = .int .i64 i ∧ jv = .int .i64 j ∧ tv = .int .i64 t ∧ i ≤ la.length ∧ j ≤ lb.length ∧ i + j = t ∧ t ≤ lc.length ∧ mergeL id (la.drop i) (lb.drop j) = (mergeL id la lb).drop t ∧ Below w7.heap.size w7 wx) (fun _ _ tv _ => lc.length - (intOf tv).toNat)
    case atStart => exact ⟨0, 0, 0, rfl, rfl, rfl, by omega, by omega, by omega, by omega, rfl, Below.refl _ _⟩
    case round =>
      obtain ⟨i, j, t, rfl, rfl, rfl, hi, hj, hij, ht, hme, hbl⟩ := hrel
      have HME := Lib.hid hme; have HIJ := Lib.hid hij
      clear hme hij
      have i0 : (0 : Int) ≤ (i : Int) := by omega
      have j0 : (0 : Int) ≤ (j : Int) := by omega
      have t0 : (0 : Int) ≤ (t : Int) := by omega
      by_cases hlt : t < lc.length
      · have t1 : (t : Int) < (lc.length : Int) := by omega
        have cc := cell_keep hbl (Nat.le_refl _) (RC.out.at' (show (icells lc)[t]? = some (.int .i64 lc[t]) by simp [icells, hlt]))
        have hwi : IntKind.i64.wrap (↑i + 1) = ↑i + 1 := IntWalk.i64_in _ (by omega)
        have hwj : IntKind.i64.wrap (↑j + 1) = ↑j + 1 := IntWalk.i64_in _ (by omega)
        have hwt : IntKind.i64.wrap (↑t + 1) = ↑t + 1 := IntWalk.i64_in _ (by omega)
        have htM : t < (mergeL id la lb).length := by have := HML.out; have := HCL.out; omega
        have hdr : (mergeL id la lb).drop t = lc[t] :: (mergeL id la lb).drop (t + 1) := by
          rw [List.drop_eq_getElem_cons htM]
          have : lc[t] = (mergeL id la lb)[t] := by simp only [HMM.out, List.getElem_take]
          rw [this]
        have HDR := Lib.hid hdr; clear hdr
        have hcase : (i < la.length ∧ ((lb.length ≤ j) ∨ ∃ (h1 : i < la.length) (h2 : j < lb.length), la[i] ≤ lb[j])) ∨ (j < lb.length ∧ (la.length ≤ i ∨ ∃ (h1 : i < la.length) (h2 : j < lb.length), ¬ la[i] ≤ lb[j])) := by
          have := HML.out; have := HIJ.out
          by_cases h2 : j < lb.length
          · by_cases h1 : i < la.length
            · by_cases h : la[i] ≤ lb[j]
              · exact .inl ⟨h1, .inr ⟨h1, h2, h⟩⟩
              · exact .inr ⟨h2, .inr ⟨h1, h2, h⟩⟩
            · exact .inr ⟨h2, .inl (by omega)⟩
          · exact .inl ⟨by omega, .inl (by omega)⟩
        go_upto_region 15 with fail
        rcases hcase with ⟨h1, hl⟩ | ⟨h2, hr⟩
        · have ca := cell_keep hbl (Nat.le_refl _) (RA.out.at' (show (icells la)[i]? = some (.int .i64 la[i]) by simp [icells, h1]))
          have i1 : (i : Int) < (la.length : Int) := by omega
          have hstep := merge_left h1 (r := lb) (j := j) (hl.imp id (fun ⟨_, h, h'⟩ => ⟨h, h'⟩))
          rw [HME.out, HDR.out] at hstep
          obtain ⟨hz, hrest⟩ := List.cons.inj hstep
          rw [hz] at cc
          have HREST := Lib.hid hrest
          have hl2 : lb.length ≤ j ∨ ∃ y, j < lb.length ∧ la[i] ≤ y ∧ wr.cell? ⟨blk A7, ofs A7 + j, none⟩ = some (.int .i64 y) := hl.imp id (fun ⟨_, h, h'⟩ => ⟨_, h, h', cell_keep hbl (Nat.le_refl _) (RB.out.at' (by simp [icells, h]))⟩)
          clear hl hstep hrest HDR hz
          generalize la[i] = z at *
          go_cut [111] (fun bv wx => bv = .bool true ∧ Below wr.heap.size wr wx)
          case first =>
            rcases hl2 with h3 | ⟨y, h3, h4, cy⟩
            · have j1 : decide ((lb.length : Int) ≤ (j : Int)) = true := by simp; omega
              have j2 : (lb.length : Int) ≤ (j : Int) := by omega
              clear cc ca hwi hwj hwt
              go_quiet (fail)
              go_wp2_with fail
              go_meet
              case rel => exact ⟨rfl, below_drewN _ _⟩
            · have j1 : (j : Int) < (lb.length : Int) := by omega
              have j2 : ¬ (lb.length : Int) ≤ (j : Int) := by omega
              have j3 : decide (lb.length ≤ j) = false := by simp; omega
              have j4 : decide (i < la.length) = true := by simp; omega
              clear cc hwi hwj hwt
              go_quiet (fail)
              go_wp2_with fail
              go_meet
              case rel => first | exact ⟨rfl, below_drewN _ _⟩ | exact ⟨by simp, below_drewN _ _⟩ | exact ⟨by simp; omega, below_drewN _ _⟩
          case rest =>
            obtain ⟨rfl, hb2⟩ := hcut
            have bel2 := hbl.trans (hb2.mono hbl.size)
            have cc2 := cell_keep hb2 (Nat.le_refl _) cc
            have ca2 := cell_keep hb2 (Nat.le_refl _) ca
            clear cc ca hl2 hbl hb2
            go_upto_region 16 with fail
            go_quiet (fail)
            have bel3 := bel2.trans ((below_drewN wc nq).mono bel2.size)
            clear cc2 ca2
            go_wp2_with fail
            go_roundw
            case rel => exact ⟨i + 1, j, t + 1, by go_num, rfl, by go_num, by omega, by omega, by have := HIJ.out; omega, by omega, HREST.out.symm, bel3⟩
            case measure => simp [intOf]; omega
        · have cb := cell_keep hbl (Nat.le_refl _) (RB.out.at' (show (icells lb)[j]? = some (.int .i64 lb[j]) by simp [icells, h2]))
          have j1 : (j : Int) < (lb.length : Int) := by omega
          have hstep := merge_right h2 (l := la) (i := i) (hr.imp id (fun ⟨h, _, h'⟩ => ⟨h, h'⟩))
          rw [HME.out, HDR.out] at hstep
          obtain ⟨hz, hrest⟩ := List.cons.inj hstep
          rw [hz] at cc
          have HREST := Lib.hid hrest
          have hr2 : la.length ≤ i ∨ ∃ y, i < la.length ∧ ¬ y ≤ lb[j] ∧ wr.cell? ⟨blk A6, ofs A6 + i, none⟩ = some (.int .i64 y) := hr.imp id (fun ⟨h, _, h'⟩ => ⟨_, h, h', cell_keep hbl (Nat.le_refl _) (RA.out.at' (by simp [icells, h]))⟩)
          clear hr hstep hrest HDR hz
          generalize lb[j] = z at *
          have j2 : ¬ (lb.length : Int) ≤ (j : Int) := by omega
          have j3 : decide (lb.length ≤ j) = false := by simp; omega
          go_cut [111] (fun bv wx => bv = .bool false ∧ Below wr.heap.size wr wx)
          case first =>
            rcases hr2 with h3 | ⟨y, h3, h4, cy⟩
            · have i1 : ¬ (i : Int) < (la.length : Int) := by omega
              have i2 : decide (i < la.length) = false := by simp; omega
              clear cc hwi hwj hwt
              go_quiet (fail)
              go_wp2_with fail
              go_meet
              case rel => first | exact ⟨rfl, below_drewN _ _⟩ | exact ⟨by simp; omega, below_drewN _ _⟩
            · have i1 : (i : Int) < (la.length : Int) := by omega
              have i2 : decide (i < la.length) = true := by simp; omega
              clear cc hwi hwj hwt
              go_quiet (fail)
              go_wp2_with fail
              go_meet
              case rel => first | exact ⟨rfl, below_drewN _ _⟩ | exact ⟨by simp, below_drewN _ _⟩ | exact ⟨by simp; omega, below_drewN _ _⟩
          case rest =>
            obtain ⟨rfl, hb2⟩ := hcut
            have bel2 := hbl.trans (hb2.mono hbl.size)
            have cc2 := cell_keep hb2 (Nat.le_refl _) cc
            have cb2 := cell_keep hb2 (Nat.le_refl _) cb
            clear cc cb hr2 hbl hb2
            go_upto_region 19 with fail
            go_quiet (fail)
            have bel3 := bel2.trans ((below_drewN wc nq).mono bel2.size)
            clear cc2 cb2
            go_wp2_with fail
            go_roundw
            case rel => exact ⟨i, j + 1, t + 1, rfl, by go_num, by go_num, by omega, by omega, by have := HIJ.out; omega, by omega, HREST.out.symm, bel3⟩
            case measure => simp [intOf]; omega
      · obtain rfl : t = lc.length := by omega
        have t1 : ¬ (↑lc.length : Int) < ↑lc.length := by omega
        have km := (X7.out.step hbl).blk.cell; have lm := (X7.out.step hbl).blk.lt
        go_wp2_with fail
        refine (HLE.out _ _ (X7.out.step hbl).mach).mono ?_; rintro e w8 ⟨D, rfl, hD, r8⟩
        have b8 : Below w.heap.size w w8 := (b7.trans (hbl.mono b7.size)).trans (r8.mono (b7.trans (hbl.mono b7.size)).size)
        have hfin : n = 0 ∨ (0 < n ∧ ((D = 1000000001 ∧ la.length = 0) ∨ ((D == 1000000001) = false ∧ 0 < la.length))) := by
          by_cases h0 : n = 0
          · exact .inl h0
          · right
            refine ⟨by omega, ?_⟩
            rcases HD.out D (by omega) hD with ⟨h1, h2⟩ | ⟨h1, p, ts, h2, -⟩
            · left; exact ⟨h1, by rw [h2]; rfl⟩
            · right
              refine ⟨by simpa using h1, ?_⟩
              have := HPL.out
              rw [h2] at this
              simp at this; omega
        clear hD r8 km lm
        rcases hfin with rfl | ⟨h0, ⟨rfl, h2⟩ | ⟨h1, h2⟩⟩
        · go_wp2_with fail
          go_ret
          exact ⟨rfl, b8⟩
        · have e1 : ((n : Int) == 0) = false := beq_eq_false_iff_ne.2 (by omega)
          have e2 : ¬ (0 : Int) < (la.length : Int) := by omega
          go_wp2_with fail
          go_ret
          exact ⟨rfl, b8⟩
        · have e1 : ((n : Int) == 0) = false := beq_eq_false_iff_ne.2 (by omega)
          have e2 : (0 : Int) < (la.length : Int) := by omega
          have E3 : Hid ((D != 1000000001) = true) := Lib.hid (by simp only [bne, h1]; rfl)
          go_wp2_with fail
          go_ret
          exact ⟨congrArg (fun b => Ending.returned (.bool b)) E3.out, b8⟩
end costsMerge
end Go.Proofs.Ytndajklppipckaa
