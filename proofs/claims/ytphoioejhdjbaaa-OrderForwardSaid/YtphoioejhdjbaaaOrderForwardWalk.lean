/- The walk of OrderForward. -/
import Derived.Test.YtphoioejhdjbaaaForward
import Derived.Test.YtphoioejhdjbaaaOrderFwPlain
import Derived.Test.YtphoioejhdjbaaaOrder
import Derived.Test.YtphoioejhdjbaaaBools
import Derived.BigGuardPart
import Derived.Deep.QuietTactic
namespace Go.Proofs.Ytphoioejhdjbaaa
open Go.RowKit

namespace orderForward
set_option maxRecDepth 100000 in
set_option maxHeartbeats 8000000 in
theorem walk {w : World} (v : Value) (r : RawL) (hr : RawArg w v r) (ring : Bool) :
    Calls Try.prog 3 #[v, .bool ring] w fun e w' => e = .returned (.bool true) ∧ Below w.heap.size w w' := by
  have HMD := Lib.hid (fun W (hb : Below w.heap.size w W) => made_any v r 8 false W (hr.below hb) (by omega) (by omega))
  have HFD := Lib.hid (fun W (hb : Below w.heap.size w W) => forward_any v r 8 W (hr.below hb) (by omega) (by omega))
  have hm : Valid (mkMach r 8 false) := valid_made r 8 false (by omega) (by omega)
  have hln : 1 ≤ (mkMach r 8 false).states.length := by have := mkMach_len r 8 false (by omega); have : 1 ≤ mkN r 8 := by unfold mkN; omega
                                                        omega
  have hfv := fwdM_valid hm (by omega)
  have HM := Lib.hid hm; have HFV := Lib.hid hfv; have HFW := Lib.hid (fwdM_fwd (mkMach r 8 false))
  have HFL := Lib.hid (show 1 ≤ (fwdM (mkMach r 8 false)).states.length by rw [fwdM_len]; exact hln)
  obtain ⟨hst, hlen, A, c, rfl, hN⟩ := hr
  clear hN hm hfv hlen hst
  generalize fwdM (mkMach r 8 false) = fm at *
  generalize mkMach r 8 false = m at *
  go_enter Try.func3, Try.ntmps3
  go_wp2_with fail
  refine (HMD.out _ (by repeat' (first | exact Below.refl _ _ | assumption | refine Below.drew ?_ | refine Below.alloc ?_ (by first | omega | (simp; done) | (simp; omega)) _ | refine Below.setCell ?_ (by first | omega | (simp; done) | (simp; omega)) _))).mono ?_; rintro e w1 ⟨mv, rfl, o1, r1⟩
  have s1 := o1.at_; obtain ⟨A1, c1, rfl, s1⟩ := s1
  have b1 : Below w.heap.size w w1 := ((by repeat' (first | exact Below.refl _ _ | assumption | refine Below.drew ?_ | refine Below.alloc ?_ (by first | omega | (simp; done) | (simp; omega)) _ | refine Below.setCell ?_ (by first | omega | (simp; done) | (simp; omega)) _)) : Below w.heap.size w _).trans (r1.mono (by simp))
  have X0 : Blk w1 w.heap.size #[.int .i64 r.start, .slice A r.nodes.length c] 24 := Blk.step (Blk.new _ _ _) r1
  have X1 := X0.alloc (.cells #[.int .i64 m.start, .slice A1 m.states.length c1] 27)
  have S1 := Lib.hid (s1.below ((Below.refl _ _).alloc (Nat.le_refl _) (.cells #[.int .i64 m.start, .slice A1 m.states.length c1] 27)) (Nat.le_refl _))
  have b1a := b1.alloc b1.size (.cells #[.int .i64 m.start, .slice A1 m.states.length c1] 27)
  have Y1 : Blk (w1.alloc (.cells #[.int .i64 m.start, .slice A1 m.states.length c1] 27)) w1.heap.size #[.int .i64 m.start, .slice A1 m.states.length c1] 27 := Blk.new _ _ _
  have HB1 := Lib.hid b1
  clear o1 r1 HMD X0 s1 b1
  go_upto_if 25 with fail
  generalize w1.alloc (.cells #[.int .i64 m.start, .slice A1 m.states.length c1] 27) = w2 at *
  have hMb : w.heap.size ≤ w1.heap.size := HB1.out.size
  generalize w1.heap.size = Mb at *
  have kx := X1.cell; have lx := X1.lt; have ky := Y1.cell; have ly := Y1.lt; have fy := Y1.froz
  have HX1 := Lib.hid X1; have HY1 := Lib.hid Y1
  clear X1 Y1
  go_cut [] (fun wx => ∃ (M : MachL) (A' : Option Addr) (c' : Nat), Blk wx Mb #[.int .i64 M.start, .slice A' M.states.length c'] 27 ∧ StatesAt wx A' M.states ∧ Below w.heap.size w wx ∧ Valid M ∧ 1 ≤ M.states.length ∧ (ring = false → Fwd M))
  case first =>
    cases ring
    · go_wp2_with fail
      refine (HFD.out _ b1a).mono ?_; rintro e w3 ⟨mv, rfl, o3, r3⟩
      obtain ⟨A3, c3, rfl, s3⟩ := o3.at_
      have Y3 := HY1.out.step r3
      have b3 := b1a.trans (r3.mono b1a.size)
      have k3 := Y3.cell; have l3 := Y3.lt; have f3 := Y3.froz
      have HY3 := Lib.hid Y3
      have HS3 := Lib.hid s3
      have HO3 := Lib.hid (show OwnSt w3 w2.heap.size (.slice A3 fm.states.length c3) fm.states by
        obtain ⟨sv, hv, h⟩ := o3
        simp at hv
        rw [hv]; exact h)
      have hMl : w.heap.size ≤ Mb := hMb
      clear Y3 s3 o3 r3 ky fy kx lx
      go_wp2_with fail
      go_meet
      case rel =>
        refine ⟨fm, A3, c3, ?_, ?_, (b3.setCell (by simp; omega) _).setCell (by simp; omega) _, HFV.out, HFL.out, fun _ => HFW.out⟩
        · have := (HY3.out.put 0 (.int .i64 fm.start)).put 1 (.slice A3 fm.states.length c3)
          simpa using this
        · obtain ⟨vs, h⟩ := HO3.out
          exact (OwnSt.at_ ⟨vs, (h.setCell (a := ⟨Mb, 0, none⟩) ly _).setCell (a := ⟨Mb, 1, none⟩) ly _⟩).2
    · go_wp2_with fail
      go_meet
      case rel => exact ⟨m, A1, c1, HY1.out, S1.out, b1a, HM.out, hln, fun h => by cases h⟩
  case rest =>
    obtain ⟨M, A', c', hY, hS, hb, hv, hl, hfw⟩ := hcut
    have HY := Lib.hid hY; have HS := Lib.hid hS; have HV := Lib.hid hv; have HFR := Lib.hid hfw
    have kx := hY.cell; have lx := hY.lt
    have hsz := hv.size
    have HAL := Lib.hid (fun (s : StateL) (hs : s ∈ M.states) => (show s.arcs.length ≤ 400 by have h3 := hv.arcs; have := arcs_le_of M.states s hs; omega))
    clear S1 HX1 HY1 hY hS hv hfw HFD HFV HFW HFL HM b1a
    obtain ⟨w3, rfl⟩ : ∃ w3 : World, w3 = wc := ⟨_, rfl⟩
    go_wp2_with fail
    refine (Order_any _ M _ ⟨A', c', rfl, HS.out⟩ HV.out).mono ?_
    rintro e w4 ⟨hcase, r4⟩
    have Y4 := HY.out.step r4
    have HY4 := Lib.hid Y4
    have k4 := Y4.cell; have l4 := Y4.lt
    have HS4 := Lib.hid (HS.out.below r4 (Nat.le_refl _))
    have rdS := HS.out.rdy
    have b4 := hb.trans (r4.mono hb.size)
    clear Y4 r4 kx lx HY HS hb
    rcases hcase with ⟨sv, out, rfl, hT, hO⟩ | ⟨rfl, S, hSt⟩
    · obtain ⟨Ao, co, rfl, -, -⟩ := own_form hO
      have hol := hT.len
      rw [hol] at hO
      have hR := Rd.of_own hO
      have rdO := hR.rdy
      have HRO : Hid (∀ i (h : i < out.length), w4.cell? ⟨blk Ao, ofs Ao + i, none⟩ = some (.int .i64 (out[i] : Nat))) := Lib.hid (fun i h => hR.at' (by simp [natCells, h]))
      have HT := Lib.hid hT
      have hmk := run_make_elt eltIntO w4 M.states.length (by omega) (by omega) (by omega)
      simp only [Value.cells, Nat.mul_one, madeInts0] at hmk
      have HOL := Lib.hid hol
      rw [hol]
      clear hT hO hR HFR hol
      go_wp2_with fail
      have L0 : Blk (w4.alloc (.cells (intsA (List.replicate M.states.length 0)) 3)) w4.heap.size (intsA (posA M.states.length out 0)) 3 := by rw [posA_zero]; exact Blk.new _ _ _
      have B0 : Below w4.heap.size w4 (w4.alloc (.cells (intsA (List.replicate M.states.length 0)) 3)) := (Below.refl _ _).alloc (Nat.le_refl _) _
      have HTO : Hid (∀ k (hk : k < M.states.length), tos M k = M.states[k].arcs.map (fun a => a.to.toNat)) := Lib.hid (fun k hk => by unfold tos; rw [List.getElem?_eq_getElem hk]; rfl)
      clear hmk k4 l4
      generalize w4.alloc (.cells (intsA (List.replicate M.states.length 0)) 3) = w5 at *
      go_loopw [19] (fun i wr => ∃ k : Nat, k ≤ M.states.length ∧ i = .int .i64 k ∧ Blk wr w4.heap.size (intsA (posA M.states.length out k)) 3 ∧ Below w4.heap.size w4 wr) (fun i _ => M.states.length - (intOf i).toNat)
      case atStart => exact ⟨0, by omega, rfl, L0, B0⟩
      case round =>
        obtain ⟨k, hk, rfl, hB, bel⟩ := hrel
        have i0 : (0 : Int) ≤ ↑k := by omega
        by_cases hlt : k < M.states.length
        · have i1 : (k : Int) < (M.states.length : Int) := by omega
          have hko : k < out.length := by rw [HOL.out]; exact hlt
          have ko := cell_keep bel (Nat.le_refl _) (HRO.out k hko)
          have lo := World.block_lt_of_cell? _ _ ko
          have hon := HT.out.lt _ (List.getElem_mem hko)
          have hat := posA_at (n := M.states.length) HT.out.nd k hko hon
          have hset := posA_set (n := M.states.length) HT.out.nd k hko
          generalize out[k] = o at *
          have kb := hB.cell o; have fb := hB.froz; have lb := hB.lt
          rw [intsA_get _ _ (by rw [posA_len]; exact hon), hat] at kb
          have i2 : (0 : Int) ≤ ↑o := by omega
          have i3 : (o : Int) < (M.states.length : Int) := by omega
          have hwr : IntKind.i64.wrap ((k : Int) + 1) = (k : Int) + 1 := IntWalk.i64_in _ (by omega)
          have hB2 := hB.put o (.int .i64 ((k : Int) + 1))
          rw [intsA_set, hset] at hB2
          have HB2 := Lib.hid hB2
          clear hB hat hset hB2
          go_wp2_with fail
          go_roundw
          case rel => exact ⟨k + 1, by omega, by go_num, HB2.out, bel.setCell (Nat.le_refl _) _⟩
          case measure => simp [intOf]; omega
        · obtain rfl : k = M.states.length := by omega
          have HB := Lib.hid hB
          have HY6 := Lib.hid (HY4.out.step bel)
          have HS6 := Lib.hid (HS4.out.below bel (Nat.le_refl _))
          have b6 := b4.trans (bel.mono b4.size)
          obtain ⟨w6, rfl⟩ : ∃ w6 : World, w6 = wr := ⟨_, rfl⟩
          clear hB bel HS4 HY4 L0 B0 HRO
          go_wp2_with fail
          go_loopw [20] (fun i wr => ∃ q : Nat, q ≤ M.states.length ∧ i = .int .i64 q ∧ Below w6.heap.size w6 wr) (fun i _ => M.states.length - (intOf i).toNat)
          case atStart => exact ⟨0, by omega, rfl, Below.refl _ _⟩
          case round =>
            obtain ⟨q, hq, rfl, bel⟩ := hrel
            have i0 : (0 : Int) ≤ ↑q := by omega
            by_cases hlt : q < M.states.length
            · have i1 : (q : Int) < (M.states.length : Int) := by omega
              have hpos := HT.out.pos q hlt
              have hBr := HB.out.step bel
              have kb := hBr.cell q; have lb := hBr.lt
              rw [intsA_get _ _ (by rw [posA_len]; exact hlt), hpos.1] at kb
              have x1 : ¬ ((out.idxOf q : Int) + 1 < 1) := by omega
              have x2 : ¬ ((out.idxOf q : Int) + 1 > (M.states.length : Int)) := by have := hpos.2; omega
              have HIX : Hid (∀ p, p < M.states.length → p ∈ tos M q → (posA M.states.length out M.states.length).getD p 0 = (out.idxOf p : Int) + 1 ∧ ¬ ((out.idxOf p : Int) + 1 ≤ (out.idxOf q : Int) + 1)) := Lib.hid (fun p hp h => ⟨(HT.out.pos p hp).1, by have := HT.out.idx hp h; omega⟩)
              have hSr := HS6.out.below bel (Nat.le_refl _)
              have d0 := hSr.c0 q hlt
              obtain ⟨Aa, ca, d1, hAa⟩ := hSr.c1 q hlt
              have hto := HTO.out q hlt
              have hva := (HV.out.st _ (List.getElem_mem hlt)).2
              have hal := HAL.out _ (List.getElem_mem hlt)
              generalize M.states[q] = s at *
              have rdA := hAa.rdy
              have lA := World.block_lt_of_cell? _ _ d0
              have HTK := Lib.hid hto; have HVA := Lib.hid hva; have HAA := Lib.hid hAa
              have HX : Hid (∃ x : Int, (out.idxOf q : Int) + 1 = x) := Lib.hid ⟨_, rfl⟩
              generalize (out.idxOf q : Int) + 1 = x at *
              have x3 : 1 ≤ x := by omega
              clear hpos hSr hto hva hAa hBr
              go_wp2_with fail
              obtain ⟨wo, rfl⟩ : ∃ wo : World, wo = wr := ⟨_, rfl⟩
              go_loopw [21] (fun i wr => ∃ t : Nat, t ≤ s.arcs.length ∧ i = .int .i64 t ∧ Below w6.heap.size w6 wr ∧ Below wo.heap.size wo wr) (fun i _ => s.arcs.length - (intOf i).toNat)
              case atStart => exact ⟨0, by omega, rfl, bel, Below.refl _ _⟩
              case round =>
                obtain ⟨t, ht, rfl, bel, bo⟩ := hrel
                have i2 : (0 : Int) ≤ ↑t := by omega
                have kbr := cell_keep bo (Nat.le_refl _) kb; have lbr := Nat.lt_of_lt_of_le lb bo.size
                have d0r := cell_keep bo (Nat.le_refl _) d0; have d1r := cell_keep bo (Nat.le_refl _) d1
                have lAr := World.block_lt_of_cell? _ _ d0r
                have Y := HY6.out.step bel
                have ky := Y.cell; have ly := Y.lt
                by_cases hlt2 : t < s.arcs.length
                · have i3 : (t : Int) < (s.arcs.length : Int) := by omega
                  have hAr := HAA.out.below bo (Nat.le_refl _)
                  have d3 := hAr.c3 t hlt2
                  have d2 := hAr.c0 t hlt2
                  have lA2 := World.block_lt_of_cell? _ _ d2
                  have hvt := HVA.out _ (List.getElem_mem hlt2)
                  have htm : s.arcs[t].to.toNat ∈ tos M q := by rw [HTK.out]; exact List.mem_map.2 ⟨_, List.getElem_mem hlt2, rfl⟩
                  generalize s.arcs[t] = a at *
                  obtain ⟨tn, htn⟩ : ∃ tn : Nat, a.to = tn := ⟨a.to.toNat, by have := hvt.t0; omega⟩
                  have htn2 : tn < M.states.length := by have := hvt.t1; omega
                  rw [htn, Int.toNat_natCast] at htm
                  rw [htn] at d3
                  have hix := HIX.out tn htn2 htm
                  have kt := ((HB.out.step bel).cell tn)
                  rw [intsA_get _ _ (by rw [posA_len]; exact htn2), hix.1] at kt
                  have x4 := hix.2
                  generalize (out.idxOf tn : Int) + 1 = y at *
                  have i4 : (0 : Int) ≤ ↑tn := by omega
                  have i5 : (tn : Int) < (M.states.length : Int) := by omega
                  clear hAr hvt htm htn hix Y kb d0 d1
                  go_upto_region 50 with fail
                  go_quiet (fail)
                  go_wp2_with fail
                  go_roundw
                  case rel => exact ⟨t + 1, by omega, by go_num, below_drewN bel _, below_drewN bo _⟩
                  case measure => simp [intOf]; omega
                · obtain rfl : t = s.arcs.length := by omega
                  go_wp2_with fail
                  go_roundw
                  case rel => exact ⟨q + 1, by omega, by go_num, bel⟩
                  case measure => simp [intOf]; omega
            · obtain rfl : q = M.states.length := by omega
              go_wp2_with fail
              go_ret; exact ⟨rfl, b6.trans (bel.mono b6.size)⟩
    · have hring : ring = true := by
        cases ring
        · exact (fwd_not_stuck (HFR.out rfl) hSt).elim
        · rfl
      subst hring
      have HST := Lib.hid hSt
      clear hSt HFR
      have hmk := run_make_elt eltBoolA w4 M.states.length (by omega) (by omega) (by omega)
      simp only [Value.cells, Nat.mul_one, madeBoolsA] at hmk
      go_wp2_with fail
      have L0 : Blk (w4.alloc (.cells (boolsA (List.replicate M.states.length false)) 4)) w4.heap.size (boolsA (List.replicate M.states.length false)) 4 := Blk.new _ _ _
      have B0 : Below w4.heap.size w4 (w4.alloc (.cells (boolsA (List.replicate M.states.length false)) 4)) := (Below.refl _ _).alloc (Nat.le_refl _) _
      have HTO : Hid (∀ k (hk : k < M.states.length), tos M k = M.states[k].arcs.map (fun a => a.to.toNat)) := Lib.hid (fun k hk => by unfold tos; rw [List.getElem?_eq_getElem hk]; rfl)
      have hL0 : (List.replicate M.states.length false).length = M.states.length := by simp
      clear hmk
      generalize w4.alloc (.cells (boolsA (List.replicate M.states.length false)) 4) = w5 at *
      generalize List.replicate M.states.length false = lf0 at *
      clear k4 l4
      go_loopw [10] (fun i wr => ∃ (k : Nat) (lf : List Bool), k ≤ M.states.length ∧ i = .int .i64 k ∧ lf.length = M.states.length ∧ (∀ q, q < k → lf.getD q false = true) ∧ Blk wr w4.heap.size (boolsA lf) 4 ∧ Below w4.heap.size w4 wr) (fun i _ => M.states.length - (intOf i).toNat)
      case atStart => exact ⟨0, _, by omega, rfl, hL0, fun q h => by omega, L0, B0⟩
      case round =>
        obtain ⟨k, lf, hk, rfl, hll, hq, hB, bel⟩ := hrel
        have i0 : (0 : Int) ≤ ↑k := by omega
        by_cases hlt : k < M.states.length
        · have kb := hB.cell k; have fb := hB.froz; have lb := hB.lt
          rw [boolsA_get _ _ (by omega)] at kb
          have i1 : (k : Int) < (M.states.length : Int) := by omega
          have HB : Hid (Blk (wr.setCell ⟨w4.heap.size, k, none⟩ (.bool true)) w4.heap.size (boolsA (lf.set k true)) 4) := Lib.hid (by rw [← boolsA_set]; exact hB.put k _)
          have HQ : Hid (∀ q, q < k + 1 → (lf.set k true).getD q false = true) := Lib.hid (fun q h => by
            rw [bools_set (by omega)]
            split
            · rfl
            · exact hq q (by omega))
          clear hB hq
          go_wp2_with fail
          go_roundw
          case rel => exact ⟨k + 1, _, by omega, by go_num, by simp [hll], HQ.out, HB.out, bel.setCell (Nat.le_refl _) _⟩
          case measure => simp [intOf]; omega
        · obtain rfl : k = M.states.length := by omega
          have hS : ∀ q, S q → lf.getD q false = true := fun q h => hq q (HST.out.2 q h).1
          clear hq hL0 L0 B0 lf0
          go_wp2_with fail
          go_loopw [11] (fun i wr => ∃ (k : Nat) (lf : List Bool), k ≤ M.states.length ∧ i = .int .i64 k ∧ lf.length = M.states.length ∧ (∀ q, S q → lf.getD q false = true) ∧ Blk wr w4.heap.size (boolsA lf) 4 ∧ Below w4.heap.size w4 wr) (fun i _ => M.states.length - (intOf i).toNat)
          case atStart => exact ⟨0, _, by omega, rfl, hll, hS, hB, bel⟩
          case round =>
            clear hll hS hB bel lf
            obtain ⟨k, lf, hk, rfl, hll, hS, hB, bel⟩ := hrel
            have i0 : (0 : Int) ≤ ↑k := by omega
            by_cases hlt : k < M.states.length
            · have i1 : (k : Int) < (M.states.length : Int) := by omega
              go_wp2_with fail
              go_loopw [12] (fun i wr => ∃ (q : Nat) (lf : List Bool), q ≤ M.states.length ∧ i = .int .i64 q ∧ lf.length = M.states.length ∧ (∀ q, S q → lf.getD q false = true) ∧ Blk wr w4.heap.size (boolsA lf) 4 ∧ Below w4.heap.size w4 wr) (fun i _ => M.states.length - (intOf i).toNat)
              case atStart => exact ⟨0, _, by omega, rfl, hll, hS, hB, bel⟩
              case round =>
                clear hll hS hB bel lf
                obtain ⟨q, lf, hq, rfl, hll, hS, hB, bel⟩ := hrel
                have i2 : (0 : Int) ≤ ↑q := by omega
                by_cases hlt2 : q < M.states.length
                · have i3 : (q : Int) < (M.states.length : Int) := by omega
                  obtain ⟨wo, rfl⟩ : ∃ wo : World, wo = wr := ⟨_, rfl⟩
                  have HLS := Lib.hid hS
                  have HBL := Lib.hid hB
                  clear hS
                  go_wp2_with fail
                  go_loopw [13, 14] (fun lv pv wx => ∃ (p : Nat) (led : Bool), p ≤ M.states.length ∧ pv = .int .i64 p ∧ lv = .bool led ∧ (∀ p', p' < p → S p' → q ∈ tos M p' → led = true) ∧ wx = wo) (fun _ pv _ => M.states.length - (intOf pv).toNat)
                  case atStart => exact ⟨0, false, by omega, rfl, rfl, fun p' h => by omega, rfl⟩
                  case round =>
                    obtain ⟨p, led, hp, rfl, rfl, hled, rfl⟩ := hrel
                    have i4 : (0 : Int) ≤ ↑p := by omega
                    by_cases hlt3 : p < M.states.length
                    · have i5 : (p : Int) < (M.states.length : Int) := by omega
                      have hSr := HS4.out.below bel (Nat.le_refl _)
                      have d0 := hSr.c0 p hlt3
                      obtain ⟨Aa, ca, d1, hAa⟩ := hSr.c1 p hlt3
                      have hto := HTO.out p hlt3
                      have hva := (HV.out.st _ (List.getElem_mem hlt3)).2
                      have hal := HAL.out _ (List.getElem_mem hlt3)
                      generalize M.states[p] = s at *
                      have rdA := hAa.rdy
                      have lA := World.block_lt_of_cell? _ _ d0
                      have ky4 := (HY4.out.step bel).cell; have ly4 := (HY4.out.step bel).lt
                      have kb := hB.cell p; have fb := hB.froz; have lb := hB.lt
                      rw [boolsA_get _ _ (by omega)] at kb
                      have HLED := Lib.hid hled; have HTK := Lib.hid hto; have HVA := Lib.hid hva; have HAA := Lib.hid hAa
                      have hSp : Hid (S p → lf.getD p false = true) := Lib.hid (HLS.out p)
                      generalize lf.getD p false = lp at *
                      clear hSr hled hto hva hAa
                      go_wp2_with fail
                      obtain ⟨wz, rfl⟩ : ∃ wz : World, wz = wr := ⟨_, rfl⟩
                      go_loopw [13, 15] (fun lv iv wx => ∃ (i : Nat) (led : Bool), i ≤ s.arcs.length ∧ iv = .int .i64 i ∧ lv = .bool led ∧ (∀ p', p' < p → S p' → q ∈ tos M p' → led = true) ∧ (S p → q ∈ (tos M p).take i → led = true) ∧ wx = wz) (fun _ iv _ => s.arcs.length - (intOf iv).toNat)
                      case atStart => exact ⟨0, led, by omega, rfl, rfl, HLED.out, fun _ h => by simp at h, rfl⟩
                      case round =>
                        clear HLED
                        obtain ⟨i, led, hi, rfl, rfl, hle1, hle2, rfl⟩ := hrel
                        have i6 : (0 : Int) ≤ ↑i := by omega
                        by_cases hlt4 : i < s.arcs.length
                        · have i7 : (i : Int) < (s.arcs.length : Int) := by omega
                          have hAr := HAA.out
                          have d3 := hAr.c3 i hlt4
                          have d2 := hAr.c0 i hlt4
                          have lA2 := World.block_lt_of_cell? _ _ d2
                          have hva := HVA.out _ (List.getElem_mem hlt4)
                          have htk : (tos M p).take (i + 1) = (tos M p).take i ++ [s.arcs[i].to.toNat] := by
                            rw [HTK.out, List.take_succ_eq_append_getElem (by simpa using hlt4)]; simp
                          generalize s.arcs[i] = a at *
                          obtain ⟨tn, htn⟩ : ∃ tn : Nat, a.to = tn := ⟨a.to.toNat, by have := hva.t0; omega⟩
                          rw [htn, Int.toNat_natCast] at htk
                          rw [htn] at d3
                          have H1 := Lib.hid hle1; have H2 := Lib.hid hle2; have HTK2 := Lib.hid htk
                          clear hAr hva htn hle1 hle2 htk
                          cases led with
                          | true =>
                            go_wp2_with fail
                            go_roundw
                            case rel => exact ⟨i + 1, true, by omega, by go_num, rfl, fun _ _ _ _ => rfl, fun _ _ => rfl, by trivial⟩
                            case measure => simp [intOf]; omega
                          | false =>
                            cases lp with
                            | false =>
                              go_wp2_with fail
                              go_roundw
                              case rel => exact ⟨i + 1, false, by omega, by go_num, rfl, H1.out, fun h _ => hSp.out h, by trivial⟩
                              case measure => simp [intOf]; omega
                            | true =>
                              by_cases e : tn = q
                              · have e1 : ((tn : Int) == (q : Int)) = true := by simp [e]
                                clear e
                                go_wp2_with fail
                                go_roundw
                                case rel => exact ⟨i + 1, true, by omega, by go_num, rfl, fun _ _ _ _ => rfl, fun _ _ => rfl, by trivial⟩
                                case measure => simp [intOf]; omega
                              · have e1 : ((tn : Int) == (q : Int)) = false := by simp; omega
                                have HE := Lib.hid e
                                clear e
                                go_wp2_with fail
                                go_roundw
                                case rel =>
                                  exact ⟨i + 1, false, by omega, by go_num, rfl, H1.out, fun h h2 => by
                                    rw [HTK2.out] at h2
                                    rcases List.mem_append.1 h2 with h2 | h2
                                    · exact H2.out h h2
                                    · simp at h2; exact absurd h2.symm HE.out, by trivial⟩
                                case measure => simp [intOf]; omega
                        · obtain rfl : i = s.arcs.length := by omega
                          rw [List.take_of_length_le (by rw [HTK.out]; simp)] at hle2
                          have H1 := Lib.hid hle1; have H2 := Lib.hid hle2
                          clear hle1 hle2
                          go_wp2_with fail
                          go_roundw
                          case rel => exact ⟨p + 1, led, by omega, by go_num, rfl, fun p' h hs ht => by
                            rcases Nat.lt_or_ge p' p with h3 | h3
                            · exact H1.out p' h3 hs ht
                            · obtain rfl : p' = p := by omega
                              exact H2.out hs ht, by trivial⟩
                          case measure => simp [intOf]; omega
                    · obtain rfl : p = M.states.length := by omega
                      have HLQ : Hid (S q → led = true) := Lib.hid (fun h => by
                        obtain ⟨hq1, p, hp, ht⟩ := HST.out.2 q h
                        exact hled p (HST.out.2 p hp).1 hp ht)
                      have kb := hB.cell q; have fb := hB.froz; have lb := hB.lt
                      rw [boolsA_get _ _ (by omega)] at kb
                      have hB2 := hB.put q (.bool (lf.getD q false && led))
                      rw [boolsA_set] at hB2
                      have HB2 := Lib.hid hB2
                      have HS2 : Hid (∀ q', S q' → (lf.set q (lf.getD q false && led)).getD q' false = true) := Lib.hid (fun q' h => by
                        rw [bools_set (by omega)]
                        split
                        · rename_i e
                          subst e
                          rw [HLS.out _ h, HLQ.out h]; rfl
                        · exact HLS.out _ h)
                      generalize lf.getD q false = lq at *
                      clear hled hB2 hB
                      cases lq
                      · go_wp2_with fail
                        go_roundw
                        case rel => exact ⟨q + 1, _, by omega, by go_num, by simp [hll], HS2.out, by simpa using HB2.out, bel.setCell (Nat.le_refl _) _⟩
                        case measure => simp [intOf]; omega
                      · go_wp2_with fail
                        go_roundw
                        case rel => exact ⟨q + 1, _, by omega, by go_num, by simp [hll], HS2.out, by simpa using HB2.out, bel.setCell (Nat.le_refl _) _⟩
                        case measure => simp [intOf]; omega
                · obtain rfl : q = M.states.length := by omega
                  have HLS := Lib.hid hS
                  clear hS
                  go_wp2_with fail
                  go_roundw
                  case rel => exact ⟨k + 1, lf, by omega, by go_num, hll, HLS.out, hB, bel⟩
                  case measure => simp [intOf]; omega
            · obtain rfl : k = M.states.length := by omega
              have HLS := Lib.hid hS
              clear hS
              go_wp2_with fail
              obtain ⟨wo, rfl⟩ : ∃ wo : World, wo = wr := ⟨_, rfl⟩
              go_loopw [16, 17] (fun sv iv wx => ∃ (i : Nat) (sm : Bool), i ≤ M.states.length ∧ iv = .int .i64 i ∧ sv = .bool sm ∧ (∀ q, q < i → lf.getD q false = true → sm = true) ∧ wx = wo) (fun _ iv _ => M.states.length - (intOf iv).toNat)
              case atStart => exact ⟨0, false, by omega, rfl, rfl, fun q h => by omega, rfl⟩
              case round =>
                obtain ⟨i, sm, hi, rfl, rfl, hsm, rfl⟩ := hrel
                have i6 : (0 : Int) ≤ ↑i := by omega
                by_cases hlt4 : i < M.states.length
                · have i7 : (i : Int) < (M.states.length : Int) := by omega
                  have kb := hB.cell i; have lb := hB.lt
                  rw [boolsA_get _ _ (by omega)] at kb
                  have HSM := Lib.hid hsm
                  have HE : Hid (lf.getD i false = lf.getD i false) := Lib.hid rfl
                  generalize hx : lf.getD i false = x at *
                  have HX := Lib.hid hx
                  clear hx hsm HE
                  cases sm with
                  | true =>
                    go_wp2_with fail
                    go_roundw
                    case rel => exact ⟨i + 1, true, by omega, by go_num, rfl, fun _ _ _ => rfl, by trivial⟩
                    case measure => simp [intOf]; omega
                  | false =>
                    go_wp2_with fail
                    go_roundw
                    case rel => exact ⟨i + 1, x, by omega, by go_num, rfl, fun q h h2 => by
                      rcases Nat.lt_or_ge q i with h3 | h3
                      · exact absurd (HSM.out q h3 h2) (by simp)
                      · obtain rfl : q = i := by omega
                        rw [← HX.out]; exact h2, by trivial⟩
                    case measure => simp [intOf]; omega
                · obtain rfl : i = M.states.length := by omega
                  obtain rfl : sm = true := by
                    obtain ⟨q, hq⟩ := HST.out.1
                    exact hsm q (HST.out.2 q hq).1 (HLS.out q hq)
                  clear hsm
                  go_wp2_with fail
                  go_ret; exact ⟨rfl, b4.trans (bel.mono b4.size)⟩
end orderForward
end Go.Proofs.Ytphoioejhdjbaaa
