/- topo.Paths walked. -/
/- topo.Paths of a machine without states. -/
import Derived.Test.YtkmnacchiagipaaDoorSums
import Derived.Test.YtkmnacchiagipaaDoorLowest
import Derived.StillTailTactics
namespace Go.Proofs.YtkmnacchiagipaaDoor
open Go.RowKit

set_option maxRecDepth 100000 in
set_option maxHeartbeats 8000000 in
theorem Paths_any (v : Value) (m : MachL) (w : World) (hm : MachAt w v m) (hv : Valid m) (s : Nat) (hs : m.start = s) (M : Nat → Nat) (hC : Counts m s M) (hM : ∀ q, q < m.states.length → M q ≤ 1000000000) (hT : tot m M ≤ 1000000000) (hns : ∀ S, ¬ Stuck m S) :
    Calls Tryd.prog 30 #[v] w fun e w' => e = .returned (.tuple #[.int .i64 (tot m M : Nat), .int .i64 0]) ∧ Below w.heap.size w w' := by
  have OR := Lib.hid (fun W (hb : Below w.heap.size w W) => Order_any v m W (hm.below hb) hv)
  obtain ⟨A, c, rfl, hS⟩ := hm
  have HS := Lib.hid hS; have HV := Lib.hid hv
  have hsz := hv.size
  have rd := hS.rdy
  have HTO : Hid (∀ k (hk : k < m.states.length), tos m k = m.states[k].arcs.map (fun a => a.to.toNat)) := Lib.hid (fun k hk => by unfold tos; rw [List.getElem?_eq_getElem hk]; rfl)
  have HFB : Hid (∀ k (hk : k < m.states.length), finB m k = (m.states[k].final != 1000000001)) := Lib.hid (fun k hk => by unfold finB; rw [List.getElem?_eq_getElem hk]; rfl)
  have HAL := Lib.hid (fun (s : StateL) (hs : s ∈ m.states) => (show s.arcs.length ≤ 400 by have h3 := hv.arcs; have := arcs_le_of m.states s hs; omega))
  have HC := Lib.hid hC; have HM := Lib.hid hM; have HNS := Lib.hid hns
  have HS0 : Hid (PInv m M [] (List.replicate m.states.length 0)) := Lib.hid (PInv.zero m M)
  rw [hs] at OR ⊢
  clear hS hv hC hM hns hs
  go_enter Tryd.func30, Tryd.ntmps30
  go_wp2_with fail
  refine (OR.out _ (by repeat' (first | exact Below.refl _ _ | assumption | refine Below.drew ?_ | refine Below.alloc ?_ (by first | omega | (simp; done) | (simp; omega)) _ | refine Below.setCell ?_ (by first | omega | (simp; done) | (simp; omega)) _))).mono ?_
  rintro e w1 ⟨hcase, r1⟩
  rcases hcase with ⟨sv, out, rfl, hTp, hO⟩ | ⟨rfl, S, hSt⟩
  case inr => exact (HNS.out S hSt).elim
  have b1 : Below w.heap.size w w1 := ((by repeat' (first | exact Below.refl _ _ | assumption | refine Below.drew ?_ | refine Below.alloc ?_ (by first | omega | (simp; done) | (simp; omega)) _ | refine Below.setCell ?_ (by first | omega | (simp; done) | (simp; omega)) _)) : Below w.heap.size w _).trans (r1.mono (by simp))
  have X1 : Blk w1 w.heap.size #[.int .i64 s, .slice A m.states.length c] 41 := Blk.step (Blk.new _ _ _) r1
  obtain ⟨Ao, co, rfl, -, -⟩ := own_form hO
  have hol := hTp.len
  rw [hol] at hO
  have hR := Rd.of_own hO
  have rdO := hR.rdy
  have HRO : Hid (∀ i (h : i < out.length), w1.cell? ⟨blk Ao, ofs Ao + i, none⟩ = some (.int .i64 (out[i] : Nat))) := Lib.hid (fun i h => hR.at' (by simp [natCells, h]))
  have HTP := Lib.hid hTp; have HOL := Lib.hid hol
  rw [hol]
  have hmk := run_make_elt eltIntO w1 m.states.length (by omega) (by omega) (by omega)
  simp only [Value.cells, Nat.mul_one, madeInts0] at hmk
  have k1 := X1.cell; have l1 := X1.lt
  have HX1 := Lib.hid X1
  clear r1 hO hR hTp hol OR HNS X1
  go_wp2_with fail
  have L0 : Blk (w1.alloc (.cells (intsA (List.replicate m.states.length 0)) 3)) w1.heap.size (intsA (List.replicate m.states.length 0)) 3 := Blk.new _ _ _
  have B0 : Below w1.heap.size w1 (w1.alloc (.cells (intsA (List.replicate m.states.length 0)) 3)) := (Below.refl _ _).alloc (Nat.le_refl _) _
  clear hmk k1 l1
  generalize w1.alloc (.cells (intsA (List.replicate m.states.length 0)) 3) = w2 at *
  go_loopw [7, 26] (fun sv iv wr => ∃ (k : Nat) (many : List Int), k ≤ m.states.length ∧ iv = .int .i64 k ∧ sv = .int .i64 (fsum m M (out.take k) : Nat) ∧ PInv m M (out.take k) many ∧ Blk wr w1.heap.size (intsA many) 3 ∧ Below w1.heap.size w1 wr) (fun _ iv _ => m.states.length - (intOf iv).toNat)
  case atStart => exact ⟨0, _, by omega, rfl, by simp [fsum], by simpa using HS0.out, L0, B0⟩
  case round =>
    obtain ⟨k, many, hk, rfl, rfl, hI, hB, bel⟩ := hrel
    have i0 : (0 : Int) ≤ ↑k := by omega
    by_cases hlt : k < m.states.length
    · have i1 : (k : Int) < (m.states.length : Int) := by omega
      have hko : k < out.length := by rw [HOL.out]; exact hlt
      have he : out = out.take k ++ out[k] :: out.drop (k + 1) := by rw [List.getElem_cons_drop, List.take_append_drop]
      have ho := cell_keep bel (Nat.le_refl _) (HRO.out k hko)
      have lo := World.block_lt_of_cell? _ _ ho
      have hqn := HTP.out.lt _ (List.getElem_mem hko)
      have htk : out.take (k + 1) = out.take k ++ [out[k]] := List.take_succ_eq_append_getElem hko
      generalize out[k] = q at *
      have hX := HX1.out.step bel
      have kx := hX.cell; have lx := hX.lt
      have kb := hB.cell q; have fb := hB.froz; have lb := hB.lt
      have hml : many.length = m.states.length := hI.1
      rw [intsA_get _ _ (by omega)] at kb
      have HE := Lib.hid he; have HTK := Lib.hid htk; have HI := Lib.hid hI; have HB := Lib.hid hB
      have hsn : s < m.states.length ∨ True := .inr trivial
      have i2 : (0 : Int) ≤ ↑q := by omega
      have i3 : (q : Int) < (m.states.length : Int) := by omega
      clear he htk hI hB hX hsn
      obtain ⟨wo, rfl⟩ : ∃ wo : World, wo = wr := ⟨_, rfl⟩
      go_upto_if 33 with fail
      go_cut [] (fun wx => ∃ many', PIn m M (out.take k) q 0 many' ∧ Blk wx w1.heap.size (intsA many') 3 ∧ Below w1.heap.size w1 wx)
      case first =>
        by_cases hqs : q = s
        · have e1 : ((q : Int) == (s : Int)) = true := by simp [hqs]
          have HQS := Lib.hid hqs
          clear hqs
          go_wp2_with fail
          go_meet
          case rel =>
            refine ⟨many.set q 1, ?_, by rw [← intsA_set]; exact HB.out.put q _, bel.setCell (Nat.le_refl _) _⟩
            have := HE.out
            rw [HQS.out] at this ⊢
            exact HI.out.turn1 HTP.out HC.out this
        · have e1 : ((q : Int) == (s : Int)) = false := by simp; omega
          have HQS := Lib.hid hqs
          clear hqs
          go_wp2_with fail
          go_meet
          case rel => exact ⟨many, (HI.out.turn HTP.out HC.out HE.out HQS.out).2, HB.out, bel⟩
      case rest =>
        obtain ⟨many', hIn, hB', bel'⟩ := hcut
        have bw := b1.trans (bel'.mono b1.size)
        have hSr := HS.out.below bw (Nat.le_refl _)
        have d0 := hSr.c0 q hqn
        obtain ⟨A', c', d1', hA'⟩ := HS.out.c1 q hqn
        have d1 := cell_keep bw (Nat.le_refl _) d1'
        have hto := HTO.out q hqn
        have hfi := HFB.out q hqn
        have hval := (HV.out.st _ (List.getElem_mem hqn)).2
        have hsl := HAL.out _ (List.getElem_mem hqn)
        generalize m.states[q] = sq at *
        have HA := Lib.hid hA'; have HTQ := Lib.hid hto; have HVL := Lib.hid hval
        have rdA := hA'.rdy
        have lA := World.block_lt_of_cell? _ _ d0
        have kb := hB'.cell q; have fb := hB'.froz; have lb := hB'.lt
        have hml' : many'.length = m.states.length := hIn.1
        rw [intsA_get _ _ (by omega), hIn.at_q hqn] at kb
        have hX := HX1.out.step bel'
        have kx := hX.cell; have lx := hX.lt
        have hM := HM.out q hqn
        have hsum := fsum_le (M := M) HTP.out HE.out
        have hsum2 : fsum m M (out.take k) + M q ≤ 1000000000 ∨ finB m q = false := by
          cases hf : finB m q
          · exact .inr rfl
          · left
            have h1 := fsum_le (M := M) HTP.out (pre := out.take k ++ [q]) (by rw [List.append_assoc]; exact HE.out)
            rw [fsum_snoc, hf] at h1
            simp at h1
            omega
        have HIN := Lib.hid hIn
        have HSN : Hid (fsum m M (out.take (k + 1)) = fsum m M (out.take k) + (if finB m q = true then M q else 0)) := Lib.hid (by rw [HTK.out, fsum_snoc])
        clear hSr hA' d1' hto hval hIn hX HI HB
        obtain ⟨wd, rfl⟩ : ∃ wd : World, wd = wc := ⟨_, rfl⟩
        go_upto_if 43 with fail
        go_cut [7] (fun sv wx => sv = .int .i64 (fsum m M (out.take (k + 1)) : Nat) ∧ wx = wd)
        case first =>
          by_cases hf : sq.final = 1000000001
          · have e1 : (sq.final == 1000000001) = true := by simp [hf]
            have hfb : finB m q = false := by rw [hfi]; simp [hf]
            go_wp2_with fail
            go_meet
            case rel => exact ⟨by rw [HSN.out, hfb]; simp, by trivial⟩
          · have e1 : (sq.final == 1000000001) = false := by simpa using hf
            have hfb : finB m q = true := by rw [hfi]; simp [hf]
            rw [hfb] at hsum2
            have hsum3 : fsum m M (out.take k) + M q ≤ 1000000000 := hsum2.resolve_right (by simp)
            go_wp2_with fail
            go_meet
            case rel => exact ⟨by rw [HSN.out, hfb]; simp, by trivial⟩
        case rest =>
          obtain ⟨rfl, rfl⟩ := hcut
          have HB1 := Lib.hid hB'
          clear hsum2 hB'
          go_upto_region 14 with fail
          go_loopw [58] (fun iv wx => ∃ (t : Nat) (many : List Int), t ≤ sq.arcs.length ∧ iv = .int .i64 t ∧ PIn m M (out.take k) q t many ∧ Blk wx w1.heap.size (intsA many) 3 ∧ Below w1.heap.size w1 wx) (fun iv _ => sq.arcs.length - (intOf iv).toNat)
          case atStart => exact ⟨0, _, by omega, rfl, HIN.out, HB1.out, bel'⟩
          case round =>
            obtain ⟨t, many, ht, rfl, hI, hB, bel⟩ := hrel
            by_cases hlt2 : t < sq.arcs.length
            · have bw := b1.trans (bel.mono b1.size)
              have hAr := HA.out.below bw (Nat.le_refl _)
              have d0 := hAr.c0 t hlt2; have d1 := hAr.c1 t hlt2; have d2 := hAr.c2 t hlt2; have d3 := hAr.c3 t hlt2
              have hva := HVL.out _ (List.getElem_mem hlt2)
              have htl : t < (tos m q).length := by rw [HTQ.out]; simpa using hlt2
              have hte : (tos m q)[t] = sq.arcs[t].to.toNat := by
                simp only [HTQ.out, List.getElem_map]
              generalize sq.arcs[t] = a at *
              obtain ⟨tn, htn⟩ : ∃ tn : Nat, a.to = tn := ⟨a.to.toNat, by have := hva.t0; omega⟩
              have htn2 : tn < m.states.length := by have := hva.t1; omega
              rw [htn, Int.toNat_natCast] at hte
              obtain ⟨x, hx, hxm, hI2⟩ := hI.step HTP.out HC.out HE.out htl hte htn2
              have hMt := HM.out tn htn2
              have hml2 : many.length = m.states.length := hI.1
              have kw := hB.cell tn
              rw [intsA_get _ _ (by omega), hx] at kw
              have kq := hB.cell q
              rw [intsA_get _ _ (by omega), hI.at_q hqn] at kq
              have HAQ := Lib.hid (hI.at_q hqn)
              have fw := hB.froz; have lw := hB.lt
              have BA : Blk (wr.alloc (.cells #[.int .i64 a.inn, .int .i64 a.out, .int .i64 a.wt, .int .i64 tn] 78)) wr.heap.size #[.int .i64 a.inn, .int .i64 a.out, .int .i64 a.wt, .int .i64 tn] 78 := Blk.new _ _ _
              have BW : Below wr.heap.size wr (wr.alloc (.cells #[.int .i64 a.inn, .int .i64 a.out, .int .i64 a.wt, .int .i64 tn] 78)) := (Below.refl _ _).alloc (Nat.le_refl _) _
              rw [htn] at d3
              have lA := World.block_lt_of_cell? _ _ d0
              have i4 : (0 : Int) ≤ ↑tn := by omega
              have i5 : (tn : Int) < (m.states.length : Int) := by omega
              have HI2 := Lib.hid hI2; have HB2 := Lib.hid hB; have HBA := Lib.hid BA
              clear hAr hva hte htl htn hI hI2 hB BA
              go_upto_region 16 with fail
              generalize wr.alloc (.cells #[.int .i64 a.inn, .int .i64 a.out, .int .i64 a.wt, .int .i64 tn] 78) = wa at *
              have bel2 : Below w1.heap.size w1 wa.drew := (bel.trans (BW.mono bel.size)).drew
              have hB3 : Blk wa.drew w1.heap.size (intsA many) 3 := HB2.out.step BW.drew
              have hA3 : Blk wa.drew wr.heap.size _ _ := HBA.out.step (Below.refl _ _).drew
              have ka := HBA.out.cell; have la := HBA.out.lt
              have kw := (HB2.out.step BW).cell tn
              rw [intsA_get _ _ (by omega), hx] at kw
              have kq := (HB2.out.step BW).cell q
              rw [intsA_get _ _ (by omega), HAQ.out] at kq
              have fw := (HB2.out.step BW).froz; have lw := (HB2.out.step BW).lt
              clear d0 d1 d2 d3 lA
              go_still_tail 14, (by kernel_rfl)
              change wpList _ _ _ _ _ wa.drew
              generalize wa.drew = wz at *
              have kz := hB3.cell tn
              rw [intsA_get _ _ (by omega), hx] at kz
              have fz := hB3.froz; have lz := hB3.lt
              have HB3 := Lib.hid hB3
              clear hB3 hA3 kw kq fw lw ka la
              go_wp2_with fail
              go_roundw
              case rel =>
                refine ⟨t + 1, _, by omega, by simp, HI2.out, ?_, bel2.setCell (Nat.le_refl _) _⟩
                rw [← intsA_set]
                exact HB3.out.put tn _
              case measure => simp [intOf]; omega
            · have hte : t = sq.arcs.length := by omega
              have hdone : PInv m M (out.take (k + 1)) many := by
                rw [HTK.out]
                refine PIn.done ?_
                have : (tos m q).length = sq.arcs.length := by rw [HTQ.out]; simp
                rw [this, ← hte]; exact hI
              have HI2 := Lib.hid hdone; have HB2 := Lib.hid hB
              clear hI hB hdone
              go_wp2_with fail
              go_roundw
              case rel => exact ⟨k + 1, many, by omega, by simp, rfl, HI2.out, HB2.out, bel⟩
              case measure => simp [intOf]; omega
    · have hke : k = m.states.length := by omega
      have htk : out.take k = out := by rw [hke, ← HOL.out]; exact List.take_length
      rw [htk]
      have HF := Lib.hid (fsum_full (M := M) HTP.out)
      have bw : Below w.heap.size w wr := b1.trans (bel.mono b1.size)
      rw [HF.out]
      clear hI hB htk
      go_wp2_with fail
      go_ret2
      exact ⟨rfl, bw⟩
end Go.Proofs.YtkmnacchiagipaaDoor

namespace Go.Proofs.YtkmnacchiagipaaDoor
open Go.RowKit

set_option maxRecDepth 100000 in
set_option maxHeartbeats 4000000 in
theorem Paths_zero (v : Value) (m : MachL) (w : World) (hm : MachAt w v m) (hv : Valid m) (h0 : m.states.length = 0) (hns : ∀ S, ¬ Stuck m S) :
    Calls Tryd.prog 30 #[v] w fun e w' => e = .returned (.tuple #[.int .i64 0, .int .i64 0]) ∧ Below w.heap.size w w' := by
  have OR := Lib.hid (fun W (hb : Below w.heap.size w W) => Order_any v m W (hm.below hb) hv)
  obtain ⟨A, c, rfl, hS⟩ := hm
  have HNS := Lib.hid hns
  rw [h0] at OR ⊢
  have H0 := Lib.hid h0
  clear hS hv hns h0
  go_enter Tryd.func30, Tryd.ntmps30
  go_wp2_with fail
  refine (OR.out _ (by repeat' (first | exact Below.refl _ _ | assumption | refine Below.drew ?_ | refine Below.alloc ?_ (by first | omega | (simp; done) | (simp; omega)) _ | refine Below.setCell ?_ (by first | omega | (simp; done) | (simp; omega)) _))).mono ?_
  rintro e w1 ⟨hcase, r1⟩
  rcases hcase with ⟨sv, out, rfl, hTp, hO⟩ | ⟨rfl, S, hSt⟩
  case inr => exact (HNS.out S hSt).elim
  have b1 : Below w.heap.size w w1 := ((by repeat' (first | exact Below.refl _ _ | assumption | refine Below.drew ?_ | refine Below.alloc ?_ (by first | omega | (simp; done) | (simp; omega)) _ | refine Below.setCell ?_ (by first | omega | (simp; done) | (simp; omega)) _)) : Below w.heap.size w _).trans (r1.mono (by simp))
  have X1 : Blk w1 w.heap.size #[.int .i64 m.start, .slice A 0 c] 41 := Blk.step (Blk.new _ _ _) r1
  obtain ⟨Ao, co, rfl, -, -⟩ := own_form hO
  have hol : out.length = 0 := hTp.len.trans H0.out
  rw [hol]
  have hmk := run_make_elt eltIntO w1 0 (by omega) (by omega) (by omega)
  simp only [Value.cells, Nat.mul_one, madeInts0] at hmk
  replace hmk : (Instr.makeSlice 29 (.int .i64 0) (.int .i64 0)).run Tryd.prog w1 = .ok (.slice (some ⟨w1.heap.size, 0, none⟩) 0 0) (w1.alloc (.cells (intsA (List.replicate 0 0)) 3)) := hmk
  have k1 := X1.cell; have l1 := X1.lt
  clear r1 hO hTp hol OR HNS X1
  go_wp2_with fail
  have B0 : Below w.heap.size w (w1.alloc (.cells (intsA []) 3)) := b1.alloc b1.size _
  clear hmk k1 l1
  generalize w1.alloc (.cells (intsA []) 3) = w2 at *
  go_loopw [7, 26] (fun sv iv wr => iv = .int .i64 0 ∧ sv = .int .i64 0 ∧ wr = w2) (fun _ _ _ => 0)
  case atStart => exact ⟨rfl, rfl, rfl⟩
  case round =>
    obtain ⟨rfl, rfl, rfl⟩ := hrel
    go_wp2_with fail
    go_ret2
    exact ⟨rfl, B0⟩

end Go.Proofs.YtkmnacchiagipaaDoor
