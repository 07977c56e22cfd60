/- script.step: a line as a step. -/
import Derived.Test.YtkmnacchiagipaaDoorScriptAll
import Derived.Laws.Rows
import Derived.StillTailTactics
namespace Go.Proofs.YtkmnacchiagipaaDoor
open Go.RowKit

theorem let_wrap (c : UInt8) : wrap64 (c.toNat : Int) = (c.toNat : Int) ∧ wrap64 ((c.toNat : Int) - 97) = (c.toNat : Int) - 97 := by
  have h : c.toNat < 256 := c.toNat_lt
  exact ⟨IntWalk.wrap64_in _ (by omega), IntWalk.wrap64_in _ (by omega)⟩
set_option maxRecDepth 100000 in
set_option maxHeartbeats 8000000 in
theorem step_any (x : List UInt8) (w : World) (hx : x.length ≤ 100000) (hf : FormsA w) (hm : MaxP w) :
    Calls Tryd.prog 52 #[.string ⟨x.toArray⟩] w fun e w' => e = .returned (.agg (stepC (stepOf x)).toArray) ∧ Below w.heap.size w w' := by
  have htl : (Lib.trimSuffix x [10]).length ≤ x.length := by unfold Lib.trimSuffix; split <;> simp
  have TS := Lib.hid (fun W => suffix_any ⟨x.toArray⟩ (by show x.length ≤ _; omega) W)
  have SP := Lib.hid (fun W hm => split_any ⟨(Lib.trimSuffix x [10]).toArray⟩ (by show (Lib.trimSuffix x [10]).length ≤ _; omega) W hm)
  have etl : (⟨x.toArray⟩ : ByteArray).data.toList = x := rfl
  rw [etl] at TS
  have etl : (⟨(Lib.trimSuffix x [10]).toArray⟩ : ByteArray).data.toList = Lib.trimSuffix x [10] := rfl
  rw [etl] at SP
  have HSO : Hid (∀ ws, ws = Lib.split (Lib.trimSuffix x [10]) [32] → stepOf x = stepW ws) := Lib.hid (fun ws e => by rw [e]; rfl)
  have HWL : Hid (∀ ws, ws = Lib.split (Lib.trimSuffix x [10]) [32] → ∀ y ∈ ws, y.length ≤ x.length) := Lib.hid (fun ws e y hy => words_len x y (by rw [e] at hy; exact hy))
  have htx : (Lib.trimSuffix x [10]).length ≤ 100000 := by omega
  have HXX := Lib.hid hx
  clear etl htl hx
  generalize Lib.trimSuffix x [10] = tx at *
  generalize hE : stepOf x = E at *
  have HF := Lib.hid hf; have HM := Lib.hid hm
  clear hf hm hE
  have R0 := Lib.hid (Blk.new w (stepC zeroS).toArray 51)
  have B0 : Below w.heap.size w (w.alloc (.cells (stepC zeroS).toArray 51)) := (Below.refl _ _).alloc (Nat.le_refl _) _
  have M0 := Lib.hid (HM.out.below B0)
  clear B0
  simp only [stepC, zeroS] at R0 M0
  go_enter Tryd.func52, Tryd.ntmps52
  go_wp2_with fail
  refine (TS.out _).mono ?_; rintro e w_ ⟨rfl, rfl⟩
  go_wp2_with fail
  refine (SP.out _ M0.out).mono ?_; rintro e w1 ⟨ws, hws, hw0, hw1, rfl, rfl⟩
  have hw2 : ws.length ≤ 100001 := by have h1 : ws.length ≤ tx.length + 1 := hw1; omega
  obtain rfl := HSO.out ws hws
  have HWB := Lib.hid (HWL.out ws hws)
  clear hws hw1 HSO HWL SP TS M0 htx
  have hL1 : 0 < ws.length := hw0
  have RR := R0.out
  have X1 := Blk.new (w.alloc (.cells #[.int .i64 0, .int .i64 0, .int .i64 0, .int .i64 0, .string ⟨#[]⟩] 51)) (ws.map fun x => Value.string ⟨x.toArray⟩).toArray 9
  have X0 := RR.alloc (.cells (ws.map fun x => Value.string ⟨x.toArray⟩).toArray 9)
  have hb : Below w.heap.size w ((w.alloc (.cells #[.int .i64 0, .int .i64 0, .int .i64 0, .int .i64 0, .string ⟨#[]⟩] 51)).alloc (.cells (ws.map fun x => Value.string ⟨x.toArray⟩).toArray 9)) := (by repeat' (first | exact Below.refl _ _ | assumption | refine Below.drew ?_ | refine Below.alloc ?_ (by first | omega | (simp; done) | (simp; omega)) _ | refine Below.setCell ?_ (by first | omega | (simp; done) | (simp; omega)) _))
  have hs1 : (w.alloc (.cells #[.int .i64 0, .int .i64 0, .int .i64 0, .int .i64 0, .string ⟨#[]⟩] 51)).heap.size = w.heap.size + 1 := by simp
  have hs2 : ((w.alloc (.cells #[.int .i64 0, .int .i64 0, .int .i64 0, .int .i64 0, .string ⟨#[]⟩] 51)).alloc (.cells (ws.map fun x => Value.string ⟨x.toArray⟩).toArray 9)).heap.size = w.heap.size + 2 := by simp
  rw [hs1] at X1
  obtain ⟨tF, fF, hFF⟩ := HF.out.below hb
  have HIX := Lib.hid (fun k hk W => index_forms k hk W)
  have HWC : Hid (∀ i, i < ws.length → (ws.map fun x => Value.string ⟨x.toArray⟩).toArray[i]? = some (.string ⟨(ws.getD i []).toArray⟩)) := Lib.hid (fun i h => by simp [List.getD_eq_getElem?_getD, List.getElem?_eq_getElem h])
  clear RR R0 HF
  generalize ((w.alloc (.cells #[.int .i64 0, .int .i64 0, .int .i64 0, .int .i64 0, .string ⟨#[]⟩] 51)).alloc (.cells (ws.map fun x => Value.string ⟨x.toArray⟩).toArray 9)) = w2 at *
  generalize (ws.map fun x => Value.string ⟨x.toArray⟩).toArray = wc at *
  generalize hFC : formsC = FC at *
  have hsz := formsC_size
  rw [hFC] at hsz
  have hinf : (Tryd.prog.info? 177).map (·.size) = some FC.size := by rw [hsz]; kernel_rfl
  clear hFC hsz
  go_wp2_with (refine wpList_load_row rfl _ _ rfl 0 rfl tF FC fF _ hFF Tryd.underlying177 rfl hinf ?_)
  have HX0 := Lib.hid X0; have HX1 := Lib.hid X1; have HB := Lib.hid hb
  clear X0 X1 hb hFF
  go_loopw [14] (fun kv wr => ∃ k : Nat, k ≤ 15 ∧ kv = .int .i64 k ∧ Below w2.heap.size w2 wr ∧ ∀ j, j < k → isF ws j = false) (fun kv _ => 15 - (intOf kv).toNat)
  case atStart => exact ⟨0, by omega, rfl, Below.refl _ _, fun j h => by omega⟩
  case round =>
    obtain ⟨k, hk, rfl, b2, hno⟩ := hrel
    have HNO := Lib.hid hno; clear hno
    have h2 := b2.size
    have i0 : (0 : Int) ≤ (k : Int) := by omega
    by_cases h15 : k < 15
    · have i1 : (k : Int) < 15 := by omega
      have ix := HIX.out k h15
      have Y0 := HX0.out.step b2; have Y1 := HX1.out.step b2
      have BW := Lib.hid (HB.out.trans (b2.mono HB.out.size))
      obtain ⟨fl1, fl2⟩ := forms_len k h15
      have hasc := Lib.hid (args_ascii k)
      have HFI := Lib.hid (fun a b => stepW_at (ws := ws) h15 a b)
      have HIF : Hid (isF ws k = decide (wordF k = ws.getD 0 [] ∧ ws.length = (argsF k).length + 1)) := Lib.hid rfl
      generalize argsF k = ag at *
      generalize wordF k = wd at *
      have y0c : wr.cell? ⟨w.heap.size + 1, 0, none⟩ = some (.string ⟨(ws.getD 0 []).toArray⟩) := by rw [Y1.cell]; exact HWC.out 0 hw0
      have y0l := Y1.lt
      have HY0 := Lib.hid Y0; have HY1 := Lib.hid Y1
      clear Y0 Y1
      go_upto_region 5 with fail
      have XF := Blk.new wr #[.int .i64 ((k : Int) + 1), .string ⟨wd.toArray⟩, .string ⟨ag.toArray⟩] 176
      have bF : Below wr.heap.size wr (wr.alloc (.cells #[.int .i64 ((k : Int) + 1), .string ⟨wd.toArray⟩, .string ⟨ag.toArray⟩] 176)) := (Below.refl _ _).alloc (Nat.le_refl _) _
      have h5 : (wr.alloc (.cells #[.int .i64 ((k : Int) + 1), .string ⟨wd.toArray⟩, .string ⟨ag.toArray⟩] 176)).heap.size = wr.heap.size + 1 := by simp
      generalize wr.alloc (.cells #[.int .i64 ((k : Int) + 1), .string ⟨wd.toArray⟩, .string ⟨ag.toArray⟩] 176) = w5 at *
      have Z0 := Lib.hid (HY0.out.step bF); have Z1 := Lib.hid (HY1.out.step bF)
      have BW5 := Lib.hid (BW.out.trans (bF.mono BW.out.size)); have B25 := Lib.hid (b2.trans (bF.mono h2))
      have z0c := cell_keep bF (Nat.le_refl _) y0c
      have z0l : w.heap.size + 1 < w5.heap.size := by omega
      have c0 := XF.cell 0; have c1 := XF.cell 1; have c2 := XF.cell 2; have cl := XF.lt
      have n1 : IntKind.i64.wrap ((ag.length : Int) + 1) = (ag.length : Int) + 1 := IntWalk.i64_in _ (by omega)
      clear y0c HY0 HY1 BW bF ix y0l
      generalize ws.getD 0 [] = y0 at *
      by_cases q1 : wd = y0
      · subst q1
        by_cases q2 : ws.length = ag.length + 1
        · have HY : Hid (isF ws k = true) := Lib.hid (by rw [HIF.out]; simp [q2])
          have HES := Lib.hid (HFI.out HY.out HNO.out)
          have q3 : (ws.length : Int) = (ag.length : Int) + 1 := by omega
          have HQ2 := Lib.hid q2
          clear HIF HFI HY HNO q2
          refine wp_region_still_lit (by kernel_rfl) (by kernel_rfl) ?_
          iterate 7 still_step
          iterate 7 still_step
          still_step
          refine wpStill_nil ?_
          obtain ⟨agB, hagB⟩ : ∃ agB : ByteArray, (⟨ag.toArray⟩ : ByteArray) = agB := ⟨_, rfl⟩
          have HGS : Hid (agB.size = ag.length) := Lib.hid (by rw [← hagB]; rfl)
          have HGG : Hid (∀ i (h : i < ag.length) (h' : i < agB.size), agB[i]'h' = ag[i]) := Lib.hid (fun i h h' => by subst hagB; rfl)
          rw [hagB] at c2
          clear hagB q3
          go_wp2_with fail
          have X6 := (Blk.new w5 #[.int .i64 ((k : Int) + 1), .int .i64 0, .int .i64 0, .int .i64 0, .string ⟨#[]⟩] 51).drew
          have b6 : Below w5.heap.size w5 (w5.alloc (.cells #[.int .i64 ((k : Int) + 1), .int .i64 0, .int .i64 0, .int .i64 0, .string ⟨#[]⟩] 51)).drew := ((Below.refl _ _).alloc (Nat.le_refl _) _).drew
          have h6 : (w5.alloc (.cells #[.int .i64 ((k : Int) + 1), .int .i64 0, .int .i64 0, .int .i64 0, .string ⟨#[]⟩] 51)).drew.heap.size = w5.heap.size + 1 := by simp [World.drew]
          have HB6 := Lib.hid (BW5.out.trans (b6.mono BW5.out.size))
          have G0 := Lib.hid (Z0.out.step b6); have G1 := Lib.hid (Z1.out.step b6); have G6 := Lib.hid X6
          generalize (w5.alloc (.cells #[.int .i64 ((k : Int) + 1), .int .i64 0, .int .i64 0, .int .i64 0, .string ⟨#[]⟩] 51)).drew = w6 at *
          have hw5 : w.heap.size + 2 ≤ w5.heap.size := by omega
          clear c0 c1 c2 cl XF X6 b6 Z0 Z1 BW5 B25 z0c z0l b2 i0 i1 h2
          generalize wr.heap.size = fb at *
          obtain ⟨wo, rfl⟩ : ∃ wo : World, wo = wr := ⟨_, rfl⟩
          rw [h5] at h6 hw5
          rw [h5] at G6
          clear h5
          go_loopw [] (fun W => ∃ (j : Nat) (cur : StepL), j ≤ ag.length ∧ W.heap[fb + 1 + 1]? = some (.stringIter agB j) ∧
            Blk W w.heap.size #[.int .i64 0, .int .i64 0, .int .i64 0, .int .i64 0, .string ⟨#[]⟩] 51 ∧ Blk W (w.heap.size + 1) wc 9 ∧ Blk W (fb + 1) (stepC cur).toArray 51 ∧ Below w.heap.size w W ∧
            fillS ⟨(k : Int) + 1, 0, 0, 0, []⟩ ag (ws.drop 1) = fillS cur (ag.drop j) (ws.drop (j + 1))) (fun W => ag.length - itAt W (fb + 1 + 1))
          case atStart => exact ⟨0, ⟨(k : Int) + 1, 0, 0, 0, []⟩, by omega, by rw [← h6]; exact heap_alloc_new w6 _, G0.out.alloc _, G1.out.alloc _, G6.out.alloc _, HB6.out.alloc (by omega) _, rfl⟩
          case round =>
            obtain ⟨j, cur, hj, hi, hb0, hb1, hb6, hb, hA⟩ := hrel
            have HI := Lib.hid hi; have HB0 := Lib.hid hb0; have HB1 := Lib.hid hb1; have HB6 := Lib.hid hb6; have HB := Lib.hid hb; have HA := Lib.hid hA
            clear hb0 hb1 hb6 hb hA G0 G1 G6 h6
            by_cases hlt : j < ag.length
            · have hlt' : j < agB.size := by have := HGS.out; omega
              have hgk := HGG.out j hlt hlt'
              have hx128 : (ag[j]).toNat < 128 := hasc.out _ (List.getElem_mem hlt)
              have hnx := fun ty => Lib.run_next_ascii_at (P := Tryd.prog) wr (fb + 1 + 1) agB j ty hi hlt' (by rw [hgk]; exact hx128)
              rw [hgk] at hnx
              have hj1 : j + 1 < ws.length := by have := HQ2.out; omega
              have HDR : Hid (fillS ⟨(k : Int) + 1, 0, 0, 0, []⟩ ag (ws.drop 1) = fillS (putS cur ag[j] (ws.getD (j + 1) [])) (ag.drop (j + 1)) (ws.drop (j + 1 + 1))) := Lib.hid (by
                rw [HA.out, List.drop_eq_getElem_cons hlt, fillS]
                have e1 : (ws.drop (j + 1)).getD 0 [] = ws.getD (j + 1) [] := by simp [List.getD_eq_getElem?_getD]
                rw [e1, List.drop_drop])
              have HIT : Hid ((wr.iterAt (fb + 1 + 1) agB (j + 1)).heap[fb + 1 + 1]? = some (.stringIter agB (j + 1))) := Lib.hid (Lib.iterAt_heap wr _ agB j (j + 1) hi)
              have Y0 := Lib.hid (blk_iter HB0.out (show w.heap.size ≠ fb + 1 + 1 by omega) agB (j + 1))
              have Y1 := Lib.hid (blk_iter HB1.out (show w.heap.size + 1 ≠ fb + 1 + 1 by omega) agB (j + 1))
              have Y6 := Lib.hid (blk_iter HB6.out (show fb + 1 ≠ fb + 1 + 1 by omega) agB (j + 1))
              have YB := Lib.hid (HB.out.trans (iterS_below (w := wr) (show w.heap.size ≤ fb + 1 + 1 by omega) agB (j + 1)))
              generalize wr.iterAt (fb + 1 + 1) agB (j + 1) = wi at *
              have m1 : wi.cell? ⟨w.heap.size + 1, j + 1, none⟩ = some (.string ⟨(ws.getD (j + 1) []).toArray⟩) := by rw [Y1.out.cell]; exact HWC.out _ hj1
              have m1l := Y1.out.lt; have m6l := Y6.out.lt
              generalize ag[j] = c at *
              generalize ws.getD (j + 1) [] = y at *
              have i3 : ((j : Int) + 1) < (ws.length : Int) := by omega
              have i4 : (0 : Int) ≤ (j : Int) + 1 := by omega
              have i5 : ((j : Int) + 1).toNat = j + 1 := by omega
              have n3 : IntKind.i64.wrap ((j : Int) + 1) = (j : Int) + 1 := IntWalk.i64_in _ (by omega)
              have KEEP : ∀ (W : World) (cur' : StepL) (of : Nat) (v : Value), Below wi.heap.size wi W → (stepC cur).toArray.setIfInBounds of v = (stepC cur').toArray → putS cur c y = cur' →
                  ∃ (j' : Nat) (cur : StepL), j' ≤ ag.length ∧ (W.setCell ⟨fb + 1, of, none⟩ v).heap[fb + 1 + 1]? = some (.stringIter agB j') ∧
                    Blk (W.setCell ⟨fb + 1, of, none⟩ v) w.heap.size #[.int .i64 0, .int .i64 0, .int .i64 0, .int .i64 0, .string ⟨#[]⟩] 51 ∧ Blk (W.setCell ⟨fb + 1, of, none⟩ v) (w.heap.size + 1) wc 9 ∧ Blk (W.setCell ⟨fb + 1, of, none⟩ v) (fb + 1) (stepC cur).toArray 51 ∧ Below w.heap.size w (W.setCell ⟨fb + 1, of, none⟩ v) ∧
                    fillS ⟨(k : Int) + 1, 0, 0, 0, []⟩ ag (ws.drop 1) = fillS cur (ag.drop j') (ws.drop (j' + 1)) := fun W cur' of v hbW hc hp =>
                ⟨j + 1, cur', by omega, by rw [Below.heap_setCell _ _ _ _ (show fb + 1 + 1 ≠ fb + 1 by omega)]; exact (hbW.block _ (Array.getElem?_eq_some_iff.1 HIT.out).1).trans HIT.out,
                  (Y0.out.step hbW).far (a := ⟨fb + 1, of, none⟩) (by show w.heap.size ≠ fb + 1; omega) _, (Y1.out.step hbW).far (a := ⟨fb + 1, of, none⟩) (by show w.heap.size + 1 ≠ fb + 1; omega) _, ((Y6.out.step hbW).put of _).eq hc,
                  (YB.out.trans (hbW.mono YB.out.size)).setCell (p := ⟨fb + 1, of, none⟩) (by show w.heap.size ≤ fb + 1; omega) _, by rw [HDR.out, hp]⟩
              have MEAS : ∀ (W : World) (of : Nat) (v : Value), Below wi.heap.size wi W → ag.length - itAt (W.setCell ⟨fb + 1, of, none⟩ v) (fb + 1 + 1) < ag.length - itAt wr (fb + 1 + 1) := fun W of v hbW => by
                have h1 : (W.setCell ⟨fb + 1, of, none⟩ v).heap[fb + 1 + 1]? = some (.stringIter agB (j + 1)) := by rw [Below.heap_setCell _ _ _ _ (show fb + 1 + 1 ≠ fb + 1 by omega)]; exact (hbW.block _ (Array.getElem?_eq_some_iff.1 HIT.out).1).trans HIT.out
                rw [itAt_of HI.out, itAt_of h1]; omega
              have HKEEP := Lib.hid KEEP; have HMEAS := Lib.hid MEAS
              clear KEEP MEAS hgk
              clear hi
              by_cases h110 : c = 110
              · subst h110
                have q4 : wi.cell? ⟨fb + 1, 4, none⟩ = some (.string ⟨cur.name.toArray⟩) := Y6.out.cell 4
                have q4f := Y6.out.froz 4
                clear hx128
                go_wp2_with fail
                go_roundw
                case rel => exact HKEEP.out wi { cur with name := y } 4 (.string ⟨y.toArray⟩) (Below.refl _ _) rfl rfl
                case measure => exact HMEAS.out wi 4 _ (Below.refl _ _)
              · have hx : (c.toNat : Int) ≠ 110 := fun e => h110 (by
                  have : c.toNat = (110 : UInt8).toNat := by have h2 : (110 : UInt8).toNat = 110 := rfl; omega
                  exact UInt8.toNat_inj.1 this)
                have e1 : ((c.toNat : Int) == 110) = false := by simpa using hx
                have FA := Lib.hid (fun b W => field_any b (c.toNat : Int) W)
                have HSF := Lib.hid (setF_at cur (c.toNat : Int))
                have hoff := offF_lt (c.toNat : Int)
                have HPU : Hid (putS cur c y = if y.length = 1 then setF cur c.toNat (((y.getD 0 0).toNat : Int) - 97) else setF cur c.toNat (-1)) := Lib.hid (by unfold putS; rw [if_neg h110])
                have q5 : wi.cell? ⟨fb + 1, offF (c.toNat : Int), none⟩ = some (.int .i64 (getF cur c.toNat)) := by
                  rw [Y6.out.cell]; simpa using getF_at cur (c.toNat : Int)
                have q5f := Y6.out.froz (offF (c.toNat : Int))
                generalize hx2 : (c.toNat : Int) = x at *
                generalize offF x = of at *
                clear hx2 hx128 hx h110
                by_cases hy1 : y.length = 1
                · obtain ⟨yc, rfl⟩ : ∃ yc, y = [yc] := by
                    match y, hy1 with
                    | [a], _ => exact ⟨a, rfl⟩
                  have HPU2 := Lib.hid (HPU.out.trans (if_pos rfl))
                  go_upto_region 14 with fail
                  have hdr : Below wi.heap.size wi wi.drew := (Below.refl _ _).drew
                  have q5d : wi.drew.cell? ⟨fb + 1, of, none⟩ = some (.int .i64 (getF cur x)) := q5
                  have q5fd : wi.drew.frozen? ⟨fb + 1, of, none⟩ = false := q5f
                  have m6d : fb + 1 < wi.drew.heap.size := m6l
                  have hgb : ∀ h : 0 < (⟨#[yc]⟩ : ByteArray).size, (⟨#[yc]⟩ : ByteArray)[0] = yc := fun h => rfl
                  refine wp_region_still_tail 7 (by kernel_rfl) (by kernel_rfl) ?_
                  simp only [List.take_succ_cons, List.take_zero, List.drop_succ_cons, List.drop_zero]
                  still_step
                  still_call ((FA.out _ _).mono fun _ _ h => ⟨h.1, h.2.symm⟩)
                  still_step
                  still_step
                  still_step
                  still_step
                  still_step
                  refine wpStill_nil ?_
                  change wpList _ _ _ _ _ wi.drew
                  clear q5 q5f
                  go_wp2_with fail
                  go_roundw
                  case rel =>
                    simp only [(let_wrap yc).1, (let_wrap yc).2]
                    exact HKEEP.out wi.drew _ of (.int .i64 ((yc.toNat : Int) - 97)) hdr (by rw [List.setIfInBounds_toArray, HSF.out]; rfl) HPU2.out
                  case measure => exact HMEAS.out wi.drew of _ hdr
                · have hy2 : ((y.length : Int) == 1) = false := by simp; omega
                  have HPU2 := Lib.hid (HPU.out.trans (if_neg hy1))
                  go_wp2_with fail
                  refine (FA.out _ _).mono ?_; rintro e w_ ⟨rfl, rfl⟩
                  go_wp2_with fail
                  go_roundw
                  case rel => exact HKEEP.out wi _ of (.int .i64 (-1)) (Below.refl _ _) (by rw [List.setIfInBounds_toArray, HSF.out]) HPU2.out
                  case measure => exact HMEAS.out wi of _ (Below.refl _ _)
            · obtain rfl : j = ag.length := by omega
              have hlt' : ¬ ag.length < agB.size := by have := HGS.out; omega
              have hnx := fun ty => Lib.run_next_end_at (P := Tryd.prog) wr (fb + 1 + 1) agB ag.length ty hi hlt'
              have HE : Hid (stepW ws = cur) := Lib.hid (by rw [HES.out, HA.out, List.drop_length]; rfl)
              obtain ⟨ck, cd, ca, cb, cn⟩ := cur
              have q0 : wr.cell? ⟨fb + 1, 0, none⟩ = some (.int .i64 ck) := HB6.out.cell 0
              have q1 : wr.cell? ⟨fb + 1, 1, none⟩ = some (.int .i64 cd) := HB6.out.cell 1
              have q2 : wr.cell? ⟨fb + 1, 2, none⟩ = some (.int .i64 ca) := HB6.out.cell 2
              have q3 : wr.cell? ⟨fb + 1, 3, none⟩ = some (.int .i64 cb) := HB6.out.cell 3
              have q4 : wr.cell? ⟨fb + 1, 4, none⟩ = some (.string ⟨cn.toArray⟩) := HB6.out.cell 4
              have q5 := HB6.out.lt
              have s0 := HB0.out.cell 0; have s1 := HB0.out.cell 1; have s2 := HB0.out.cell 2; have s3 := HB0.out.cell 3; have s4 := HB0.out.cell 4
              have f0 := HB0.out.froz 0; have f1 := HB0.out.froz 1; have f2 := HB0.out.froz 2; have f3 := HB0.out.froz 3; have f4 := HB0.out.froz 4
              have l0 := HB0.out.lt
              clear hi
              go_wp2_with fail
              refine bodyPost_ret (v := .agg #[.int .i64 ck, .int .i64 cd, .int .i64 ca, .int .i64 cb, .string ⟨cn.toArray⟩]) (by simp [results, Tryd.results52, go_sem, *]) rfl ⟨by rw [HE.out]; rfl, ?_⟩
              exact ((((HB.out.setCell (p := ⟨w.heap.size, 0, none⟩) (Nat.le_refl _) _).setCell (p := ⟨w.heap.size, 1, none⟩) (Nat.le_refl _) _).setCell (p := ⟨w.heap.size, 2, none⟩) (Nat.le_refl _) _).setCell (p := ⟨w.heap.size, 3, none⟩) (Nat.le_refl _) _).setCell (p := ⟨w.heap.size, 4, none⟩) (Nat.le_refl _) _
        · have HN : Hid (isF ws k = false) := Lib.hid (by rw [HIF.out]; simp [q2])
          have q3 : ¬ ((ws.length : Int) = (ag.length : Int) + 1) := by omega
          clear q2
          refine wp_region_still_lit (by kernel_rfl) (by kernel_rfl) ?_
          iterate 7 still_step
          iterate 7 still_step
          still_step
          refine wpStill_nil ?_
          go_wp2_with fail
          go_roundw
          case rel => exact ⟨k + 1, by omega, by go_num, B25.out.drew, fun j hj => by
            rcases Nat.lt_or_ge j k with h | h
            · exact HNO.out j h
            · obtain rfl : j = k := by omega
              exact HN.out⟩
          case measure => simp [intOf]; omega
      · have HN : Hid (isF ws k = false) := Lib.hid (by rw [HIF.out]; simp [q1])
        refine wp_region_still_lit (by kernel_rfl) (by kernel_rfl) ?_
        iterate 7 still_step
        iterate 7 still_step
        still_step
        refine wpStill_nil ?_
        go_wp2_with fail
        go_roundw
        case rel => exact ⟨k + 1, by omega, by go_num, B25.out.drew, fun j hj => by
          rcases Nat.lt_or_ge j k with h | h
          · exact HNO.out j h
          · obtain rfl : j = k := by omega
            exact HN.out⟩
        case measure => simp [intOf]; omega
    · obtain rfl : k = 15 := by omega
      have HE := Lib.hid (stepW_none HNO.out)
      have Y0 := HX0.out.step b2
      have q0 := Y0.cell 0; have q1 := Y0.cell 1; have q2 := Y0.cell 2; have q3 := Y0.cell 3; have q4 := Y0.cell 4
      have f0 := Y0.froz 0; have f1 := Y0.froz 1; have f2 := Y0.froz 2; have f3 := Y0.froz 3; have f4 := Y0.froz 4
      have l0 := Y0.lt
      go_wp2_with fail
      refine bodyPost_ret (v := .agg #[.int .i64 0, .int .i64 0, .int .i64 0, .int .i64 0, .string ⟨#[]⟩]) (by simp [results, Tryd.results52, go_sem, *]) rfl ⟨by rw [HE.out]; rfl, ?_⟩
      have BW := HB.out.trans (b2.mono HB.out.size)
      exact ((((BW.setCell (p := ⟨w.heap.size, 0, none⟩) (Nat.le_refl _) _).setCell (p := ⟨w.heap.size, 1, none⟩) (Nat.le_refl _) _).setCell (p := ⟨w.heap.size, 2, none⟩) (Nat.le_refl _) _).setCell (p := ⟨w.heap.size, 3, none⟩) (Nat.le_refl _) _).setCell (p := ⟨w.heap.size, 4, none⟩) (Nat.le_refl _) _
end Go.Proofs.YtkmnacchiagipaaDoor
