/- topo.Longest walked. -/
import Derived.Test.YteniblkmokpjjaaLongPlain
import Derived.Test.YteniblkmokpjjaaOrder
import Derived.StillTailTactics
namespace Go.Proofs.Yteniblkmokpjjaa
open Go.RowKit

set_option maxRecDepth 100000 in
set_option maxHeartbeats 8000000 in
theorem Longest_any (v : Value) (m : MachL) (w : World) (hm : MachAt w v m) (hv : Valid m) (s : Nat) (hs : m.start = s) (hns : ∀ S, ¬ Stuck m S) :
    Calls Try.prog 22 #[v] w fun e w' => ((∃ b : Nat, e = .returned (.tuple #[.int .i64 b, .int .i64 0]) ∧ Farthest m s b ∧ b ≤ m.states.length) ∨ (e = .returned (.tuple #[.int .i64 0, .int .i64 12]) ∧ ∀ q k, finB m q = true → ¬ Way m s q k)) ∧ Below w.heap.size w w' := by
  have OR := Lib.hid (fun W (hb : Below w.heap.size w W) => Order_any v m W (hm.below hb) hv)
  obtain ⟨A, c, rfl, hS⟩ := hm
  have HS := Lib.hid hS; have HV := Lib.hid hv
  have hsz := hv.size
  have hsn : s < m.states.length := by have := hv.s1; omega
  have rd := hS.rdy
  have HTO : Hid (∀ k (hk : k < m.states.length), tos m k = m.states[k].arcs.map (fun a => a.to.toNat)) := Lib.hid (fun k hk => by unfold tos; rw [List.getElem?_eq_getElem hk]; rfl)
  have HFB : Hid (∀ k (hk : k < m.states.length), finB m k = (m.states[k].final != 1000000001)) := Lib.hid (fun k hk => by unfold finB; rw [List.getElem?_eq_getElem hk]; rfl)
  have HAL := Lib.hid (fun (s : StateL) (hs : s ∈ m.states) => (show s.arcs.length ≤ 400 by have h3 := hv.arcs; have := arcs_le_of m.states s hs; omega))
  have HNS := Lib.hid hns
  rw [hs] at OR ⊢
  clear hS hv hns hs
  go_enter Try.func22, Try.ntmps22
  go_wp2_with fail
  refine (OR.out _ (by repeat' (first | exact Below.refl _ _ | assumption | refine Below.drew ?_ | refine Below.alloc ?_ (by first | omega | (simp; done) | (simp; omega)) _ | refine Below.setCell ?_ (by first | omega | (simp; done) | (simp; omega)) _))).mono ?_
  rintro e w1 ⟨hcase, r1⟩
  rcases hcase with ⟨sv, out, rfl, hTp, hO⟩ | ⟨rfl, S, hSt⟩
  case inr => exact (HNS.out S hSt).elim
  have b1 : Below w.heap.size w w1 := ((by repeat' (first | exact Below.refl _ _ | assumption | refine Below.drew ?_ | refine Below.alloc ?_ (by first | omega | (simp; done) | (simp; omega)) _ | refine Below.setCell ?_ (by first | omega | (simp; done) | (simp; omega)) _)) : Below w.heap.size w _).trans (r1.mono (by simp))
  have X1 : Blk w1 w.heap.size #[.int .i64 s, .slice A m.states.length c] 27 := Blk.step (Blk.new _ _ _) r1
  obtain ⟨Ao, co, rfl, -, -⟩ := own_form hO
  have hol := hTp.len
  rw [hol] at hO
  have hR := Rd.of_own hO
  have rdO := hR.rdy
  have HRO : Hid (∀ i (h : i < out.length), w1.cell? ⟨blk Ao, ofs Ao + i, none⟩ = some (.int .i64 (out[i] : Nat))) := Lib.hid (fun i h => hR.at' (by simp [natCells, h]))
  have HTP := Lib.hid hTp; have HOL := Lib.hid hol
  rw [hol]
  have hmk := run_make_elt eltIntO w1 m.states.length (by omega) (by omega) (by omega)
  simp only [Value.cells, Nat.mul_one, madeInts0] at hmk
  have k1 := X1.cell; have l1 := X1.lt
  have HX1 := Lib.hid X1
  clear r1 hO hR hTp hol OR HNS X1
  go_wp2_with fail
  have L0 : Blk (w1.alloc (.cells (intsA (List.replicate m.states.length 0)) 3)) w1.heap.size (intsA (List.replicate m.states.length 0)) 3 := Blk.new _ _ _
  have B0 : Below w1.heap.size w1 (w1.alloc (.cells (intsA (List.replicate m.states.length 0)) 3)) := (Below.refl _ _).alloc (Nat.le_refl _) _
  clear hmk k1 l1
  generalize w1.alloc (.cells (intsA (List.replicate m.states.length 0)) 3) = w2 at *
  go_loopw [27] (fun iv wr => ∃ (k : Nat) (far : List Int), k ≤ m.states.length ∧ iv = .int .i64 k ∧ far.length = m.states.length ∧ (∀ r, r < k → far.getD r 0 = -1) ∧ Blk wr w1.heap.size (intsA far) 3 ∧ Below w1.heap.size w1 wr) (fun iv _ => m.states.length - (intOf iv).toNat)
  case atStart => exact ⟨0, _, by omega, rfl, by simp, fun r h => by omega, L0, B0⟩
  case round =>
    obtain ⟨k, far, hk, rfl, hfl, hfa, hB, bel⟩ := hrel
    have i0 : (0 : Int) ≤ ↑k := by omega
    by_cases hlt : k < m.states.length
    · have i1 : (k : Int) < (m.states.length : Int) := by omega
      have kb := hB.cell k; have fb := hB.froz; have lb := hB.lt
      rw [intsA_get _ _ (by omega)] at kb
      have hB2 := hB.put k (.int .i64 (-1))
      rw [intsA_set] at hB2
      have HB2 := Lib.hid hB2; have HFL := Lib.hid hfl; have HFA := Lib.hid hfa
      clear hB hB2 hfl hfa
      go_wp2_with fail
      go_roundw
      case rel => exact ⟨k + 1, _, by omega, by simp, by simp [HFL.out], fun r hr => by
        rw [getDset _ _ _ (by rw [HFL.out]; exact hlt)]
        split
        · rfl
        · exact HFA.out r (by omega), HB2.out, bel.setCell (Nat.le_refl _) _⟩
      case measure => simp [intOf]; omega
    · obtain rfl : k = m.states.length := by omega
      have HS0 := Lib.hid (LInv.first (s := s) hfl hfa)
      have HB0 := Lib.hid hB
      clear hfl hfa hB L0 B0
      obtain ⟨wi, rfl⟩ : ∃ wi : World, wi = wr := ⟨_, rfl⟩
      go_wp2_with fail
      go_loopw [8, 36] (fun bv iv wr => ∃ (k : Nat) (far : List Int) (b : Int), k ≤ m.states.length ∧ iv = .int .i64 k ∧ bv = .int .i64 b ∧ LInv m s (out.take k) (out.take k) far ∧ LB m s (out.take k) far b ∧ Blk wr w1.heap.size (intsA far) 3 ∧ Below w1.heap.size w1 wr) (fun _ iv _ => m.states.length - (intOf iv).toNat)
      case atStart => exact ⟨0, _, -1, by omega, rfl, rfl, by simpa using HS0.out, by simpa using LB.first, HB0.out, bel⟩
      case round =>
        clear HS0 HB0 bel
        obtain ⟨k, far, b, hk, rfl, rfl, hI, hLB, hB, bel⟩ := hrel
        have i0 : (0 : Int) ≤ ↑k := by omega
        by_cases hlt : k < m.states.length
        · have i1 : (k : Int) < (m.states.length : Int) := by omega
          have hko : k < out.length := by rw [HOL.out]; exact hlt
          have he : out = out.take k ++ out[k] :: out.drop (k + 1) := by rw [List.getElem_cons_drop, List.take_append_drop]
          have ho := cell_keep bel (Nat.le_refl _) (HRO.out k hko)
          have lo := World.block_lt_of_cell? _ _ ho
          have hqn := HTP.out.lt _ (List.getElem_mem hko)
          have htk : out.take (k + 1) = out.take k ++ [out[k]] := List.take_succ_eq_append_getElem hko
          have htl : (out.take k).length = k := by rw [List.length_take]; omega
          generalize out[k] = q at *
          have hX := HX1.out.step bel
          have kx := hX.cell; have lx := hX.lt
          have kb := hB.cell q; have fb := hB.froz; have lb := hB.lt
          have hml : far.length = m.states.length := hI.1
          rw [intsA_get _ _ (by omega)] at kb
          have HE := Lib.hid he; have HTK := Lib.hid htk; have HI := Lib.hid hI; have HB := Lib.hid hB; have HLB := Lib.hid hLB; have HTL := Lib.hid htl
          have i2 : (0 : Int) ≤ ↑q := by omega
          have i3 : (q : Int) < (m.states.length : Int) := by omega
          clear he htk hI hB hX hLB htl
          obtain ⟨wo, rfl⟩ : ∃ wo : World, wo = wr := ⟨_, rfl⟩
          go_upto_if 43 with fail
          go_cut [] (fun wx => ∃ far', LInv m s (out.take k) (out.take k ++ [q]) far' ∧ LB m s (out.take k) far' b ∧ Blk wx w1.heap.size (intsA far') 3 ∧ Below w1.heap.size w1 wx)
          case first =>
            by_cases hqs : q = s
            · have e1 : ((q : Int) == (s : Int)) = true := by simp [hqs]
              have HQS := Lib.hid hqs
              clear hqs
              go_wp2_with fail
              go_meet
              case rel =>
                have h1 := HE.out
                rw [HQS.out] at h1
                have h2 := HI.out.start HTP.out h1 HLB.out
                refine ⟨far.set q 0, ?_, ?_, by rw [← intsA_set]; exact HB.out.put q _, bel.setCell (Nat.le_refl _) _⟩
                · rw [HQS.out]; exact h2.1
                · rw [HQS.out]; exact h2.2.1
            · have e1 : ((q : Int) == (s : Int)) = false := by simp; omega
              have HQS := Lib.hid hqs
              clear hqs
              go_wp2_with fail
              go_meet
              case rel => exact ⟨far, HI.out.other HQS.out, HLB.out, HB.out, bel⟩
          case rest =>
            obtain ⟨far', hI', hLB', hB', bel'⟩ := hcut
            have kb := hB'.cell q; have fb := hB'.froz; have lb := hB'.lt
            have hml' : far'.length = m.states.length := hI'.1
            rw [intsA_get _ _ (by omega)] at kb
            have hX := HX1.out.step bel'
            have kx := hX.cell; have lx := hX.lt
            have hlo := hI'.lo q hqn; have hhi := hI'.hi q hqn
            rw [HTL.out] at hhi
            have HI2 := Lib.hid hI'; have HLB2 := Lib.hid hLB'; have HB2 := Lib.hid hB'
            have HFQ : Hid (∃ l, far'.getD q 0 = l) := Lib.hid ⟨_, rfl⟩
            obtain ⟨l, hlq⟩ := HFQ.out
            rw [hlq] at kb hlo hhi
            have HLQ := Lib.hid hlq
            clear hI' hLB' hB' hX HI HB HLB hlq HFQ
            obtain ⟨wd, rfl⟩ : ∃ wd : World, wd = wc := ⟨_, rfl⟩
            by_cases hl0 : l < 0
            · go_wp2_with fail
              go_roundw
              case rel =>
                have h1 := HI2.out.skip HLB2.out (by rw [HLQ.out]; exact hl0)
                refine ⟨k + 1, far', b, by omega, by simp, rfl, ?_, ?_, HB2.out, bel'⟩
                · rw [HTK.out]; exact h1.1
                · rw [HTK.out]; exact h1.2
              case measure => simp [intOf]; omega
            · have bw := b1.trans (bel'.mono b1.size)
              have hSr := HS.out.below bw (Nat.le_refl _)
              have d0 := hSr.c0 q hqn
              obtain ⟨A', c', d1', hA'⟩ := HS.out.c1 q hqn
              have d1 := cell_keep bw (Nat.le_refl _) d1'
              have hto := HTO.out q hqn
              have hfi := HFB.out q hqn
              have hval := (HV.out.st _ (List.getElem_mem hqn)).2
              have hsl := HAL.out _ (List.getElem_mem hqn)
              generalize m.states[q] = sq at *
              have HA := Lib.hid hA'; have HTQ := Lib.hid hto; have HVL := Lib.hid hval
              have rdA := hA'.rdy
              have lA := World.block_lt_of_cell? _ _ d0
              have hb0 := HLB2.out.b0; have hb1 := HLB2.out.b1
              rw [HTL.out] at hb1
              have HIN : Hid (LIn m s (out.take k) q 0 l far') := Lib.hid (by
                have := HI2.out.into hqn (by rw [HLQ.out]; omega)
                rw [HLQ.out] at this; exact this)
              clear hSr hA' d1' hto hval
              go_upto_if 58 with fail
              go_cut [8] (fun bv wx => ∃ b', bv = .int .i64 b' ∧ LB m s (out.take k ++ [q]) far' b' ∧ wx = wd)
              case first =>
                by_cases hf : sq.final = 1000000001
                · have e1 : (sq.final == 1000000001) = true := by simp [hf]
                  have hfb : finB m q = false := by rw [hfi]; simp [hf]
                  have HFB2 := Lib.hid hfb
                  clear hfb hfi
                  go_wp2_with fail
                  go_meet
                  case rel => exact ⟨b, rfl, HLB2.out.nofin HFB2.out, by trivial⟩
                · have e1 : (sq.final == 1000000001) = false := by simpa using hf
                  have hfb : finB m q = true := by rw [hfi]; simp [hf]
                  have HFB2 := Lib.hid hfb
                  clear hfb hfi
                  have HNB : Hid (LB m s (out.take k ++ [q]) far' (max b l)) := Lib.hid (by
                    have := HLB2.out.fin HI2.out hqn (by rw [HLQ.out]; omega) HFB2.out
                    rw [HLQ.out] at this; exact this)
                  by_cases hbl : b < l
                  · go_wp2_with fail
                    go_meet
                    case rel => exact ⟨l, by go_num, by rw [Int.max_eq_right (by omega)] at HNB; exact HNB.out, by trivial⟩
                  · go_wp2_with fail
                    go_meet
                    case rel => exact ⟨b, by go_num, by rw [Int.max_eq_left (by omega)] at HNB; exact HNB.out, by trivial⟩
              case rest =>
                obtain ⟨b', rfl, hLB3, rfl⟩ := hcut
                have HLB3 := Lib.hid hLB3
                have HB1 := HB2
                clear hLB3 HLB2 HI2
                go_upto_region 20 with fail
                go_loopw [72] (fun iv wx => ∃ (t : Nat) (far : List Int), t ≤ sq.arcs.length ∧ iv = .int .i64 t ∧ LIn m s (out.take k) q t l far ∧ LB m s (out.take k ++ [q]) far b' ∧ Blk wx w1.heap.size (intsA far) 3 ∧ Below w1.heap.size w1 wx) (fun iv _ => sq.arcs.length - (intOf iv).toNat)
                case atStart => exact ⟨0, _, by omega, rfl, HIN.out, HLB3.out, HB1.out, bel'⟩
                case round =>
                  obtain ⟨t, far, ht, rfl, hI, hLB, hB, bel⟩ := hrel
                  by_cases hlt2 : t < sq.arcs.length
                  · have bw := b1.trans (bel.mono b1.size)
                    have hAr := HA.out.below bw (Nat.le_refl _)
                    have d0 := hAr.c0 t hlt2; have d1 := hAr.c1 t hlt2; have d2 := hAr.c2 t hlt2; have d3 := hAr.c3 t hlt2
                    have hva := HVL.out _ (List.getElem_mem hlt2)
                    have htl : t < (tos m q).length := by rw [HTQ.out]; simpa using hlt2
                    have hte : (tos m q)[t] = sq.arcs[t].to.toNat := by
                      simp only [HTQ.out, List.getElem_map]
                    generalize sq.arcs[t] = a at *
                    obtain ⟨tn, htn⟩ : ∃ tn : Nat, a.to = tn := ⟨a.to.toNat, by have := hva.t0; omega⟩
                    have htn2 : tn < m.states.length := by have := hva.t1; omega
                    rw [htn, Int.toNat_natCast] at hte
                    have hI2 := hI.step HTP.out HE.out hLB htl hte htn2
                    have hml2 : far.length = m.states.length := hI.1
                    have hlo2 := hI.lo tn htn2; have hhi2 := hI.hi tn htn2
                    rw [HTL.out] at hhi2
                    have HAQ := Lib.hid hI.atq
                    have HX : Hid (∃ x, far.getD tn 0 = x) := Lib.hid ⟨_, rfl⟩
                    obtain ⟨x, hx⟩ := HX.out
                    rw [hx] at hlo2 hhi2 hI2
                    have fw := hB.froz; have lw := hB.lt
                    have BA : Blk (wr.alloc (.cells #[.int .i64 a.inn, .int .i64 a.out, .int .i64 a.wt, .int .i64 tn] 79)) wr.heap.size #[.int .i64 a.inn, .int .i64 a.out, .int .i64 a.wt, .int .i64 tn] 79 := Blk.new _ _ _
                    have BW : Below wr.heap.size wr (wr.alloc (.cells #[.int .i64 a.inn, .int .i64 a.out, .int .i64 a.wt, .int .i64 tn] 79)) := (Below.refl _ _).alloc (Nat.le_refl _) _
                    rw [htn] at d3
                    have lA := World.block_lt_of_cell? _ _ d0
                    have i4 : (0 : Int) ≤ ↑tn := by omega
                    have i5 : (tn : Int) < (m.states.length : Int) := by omega
                    have HI2 := Lib.hid hI2; have HB2 := Lib.hid hB; have HBA := Lib.hid BA
                    clear hAr hva hte htl htn hI hI2 hB BA hLB HX
                    go_upto_region 22 with fail
                    generalize wr.alloc (.cells #[.int .i64 a.inn, .int .i64 a.out, .int .i64 a.wt, .int .i64 tn] 79) = wa at *
                    have bel2 : Below w1.heap.size w1 wa.drew := (bel.trans (BW.mono bel.size)).drew
                    have hB3 : Blk wa.drew w1.heap.size (intsA far) 3 := HB2.out.step BW.drew
                    have hA3 : Blk wa.drew wr.heap.size _ _ := HBA.out.step (Below.refl _ _).drew
                    have ka := HBA.out.cell; have la := HBA.out.lt
                    have kw := (HB2.out.step BW).cell tn
                    rw [intsA_get _ _ (by omega), hx] at kw
                    have kq := (HB2.out.step BW).cell q
                    rw [intsA_get _ _ (by omega), HAQ.out] at kq
                    have fw := (HB2.out.step BW).froz; have lw := (HB2.out.step BW).lt
                    clear d0 d1 d2 d3 lA
                    have HMX : Hid ((if x < l + 1 then l + 1 else x) = max x (l + 1)) := Lib.hid (by split <;> omega)
                    generalize max x (l + 1) = mx at *
                    go_still_tail 14, (by kernel_rfl)
                    change wpList _ _ _ _ _ wa.drew
                    generalize wa.drew = wz at *
                    have kz := hB3.cell tn
                    rw [intsA_get _ _ (by omega), hx] at kz
                    have fz := hB3.froz; have lz := hB3.lt
                    have HB3 := Lib.hid hB3
                    clear hB3 hA3 kw kq fw lw ka la
                    go_wp2_with fail
                    go_roundw
                    case rel =>
                      refine ⟨t + 1, _, by omega, by simp, HI2.out.1, HI2.out.2, ?_, bel2.setCell (Nat.le_refl _) _⟩
                      rw [← intsA_set, ← HMX.out]
                      exact HB3.out.put tn _
                    case measure => simp [intOf]; omega
                  · have hte : t = sq.arcs.length := by omega
                    have hdone : LInv m s (out.take (k + 1)) (out.take (k + 1)) far := by
                      rw [HTK.out]
                      refine LIn.done (l := l) ?_
                      have : (tos m q).length = sq.arcs.length := by rw [HTQ.out]; simp
                      rw [this, ← hte]; exact hI
                    rw [← HTK.out] at hLB
                    have HI2 := Lib.hid hdone; have HB2 := Lib.hid hB; have HLB4 := Lib.hid hLB
                    clear hI hB hdone hLB
                    go_wp2_with fail
                    go_roundw
                    case rel => exact ⟨k + 1, far, b', by omega, by simp, rfl, HI2.out, HLB4.out, HB2.out, bel⟩
                    case measure => simp [intOf]; omega
        · have hke : k = m.states.length := by omega
          have htk : out.take k = out := by rw [hke, ← HOL.out]; exact List.take_length
          rw [htk] at hI hLB
          have bw : Below w.heap.size w wr := b1.trans (bel.mono b1.size)
          have hb1 := hLB.b1
          rw [HOL.out] at hb1
          by_cases hb : b < 0
          · have HF := Lib.hid (LB.none HV.out HTP.out hsn hI hLB hb)
            clear hI hLB hB
            go_wp2_with fail
            go_ret2
            exact ⟨.inr ⟨rfl, HF.out⟩, bw⟩
          · have HF := Lib.hid (LB.some HV.out HTP.out hsn hI hLB (by omega))
            obtain ⟨bn, rfl⟩ : ∃ bn : Nat, b = bn := ⟨b.toNat, by omega⟩
            rw [Int.toNat_natCast] at HF
            clear hI hLB hB
            go_wp2_with fail
            go_ret2
            exact ⟨.inl ⟨bn, rfl, HF.out, by omega⟩, bw⟩
end Go.Proofs.Yteniblkmokpjjaa
