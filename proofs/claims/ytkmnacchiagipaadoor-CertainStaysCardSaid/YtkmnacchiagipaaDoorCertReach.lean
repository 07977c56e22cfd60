/- certain: what pairs of labels lead to from a set. -/
import Derived.Test.YtkmnacchiagipaaDoorCertReachMem
import Derived.Test.YtkmnacchiagipaaDoorCertFinal
import Derived.StillTailTactics
import Derived.BigQuiet
import Derived.Deep.DeepCutAuto
import Derived.RegionTactic
namespace Go.Proofs.YtkmnacchiagipaaDoor
open Go.RowKit
open Go.ChangeMaps (setBlock)

theorem arcQ_c {W : World} {A : Option Addr} {m : MachL} (h : StatesAt W A m.states) {q : Nat} (hq : q < m.states.length) : ∃ A' c', W.cell? ⟨blk A, ofs A + q * 2 + 1, none⟩ = some (.slice A' (arcsQ m q).length c') ∧ ArcsAt W A' (arcsQ m q) := by
  rw [arcsQ_eq (List.getElem?_eq_getElem hq)]
  exact h.c1 q hq
theorem map_nil_eq (w : World) : (binOp BinOp.eql 101 (.map none) (.map none)).run Tryd.prog w = .ok (.bool true) w := by kernel_rfl
theorem map_nil_ne (b : Nat) (w : World) : (binOp BinOp.eql 101 (.map (some b)) (.map none)).run Tryd.prog w = .ok (.bool false) w := by kernel_rfl
set_option maxRecDepth 100000 in
set_option maxHeartbeats 16000000 in
theorem reached_any (A : Option Addr) (c : Nat) (S : SetL) (B : Option Addr) (cb : Nat) (m : MachL) (WW : Int) (w : World) (hS : SetAt w A S) (hm : StatesAt w B m.states) (hw : WtC m WW) (hW : WW ≤ 10000000) (hok : SetOk m S) (hal : ∀ q, (arcsQ m q).length ≤ 400) :
    Calls Tryd.prog 55 #[.slice A S.length c, .agg #[.int .i64 m.start, .slice B m.states.length cb]] w fun e w' => e = .returned (.map (some (w.heap.size + 1))) ∧ ∃ L F, RcW w B m.states.length cb m.start w' L F ∧ RS L F (fun _ => False) (fun k q c => Cand m S k.1 k.2 q c) := by
  have HS := Lib.hid hS; have HM := Lib.hid hm; have HW := Lib.hid hw; have HOK := Lib.hid hok; have HAL := Lib.hid hal
  have hmm := @run_makeMap Tryd.prog
  have hn := hok.len
  have rA := hS.rdy; have rB := hm.rdy
  generalize m.start = st at *
  clear hS hm hw hok hal
  go_enter Tryd.func55, Tryd.ntmps55
  go_wp2_with fail
  have R0 : Hid (RcW w B m.states.length cb st ((w.alloc (.cells #[.int .i64 st, .slice B m.states.length cb] 41)).alloc (.map #[] 0)) [] (fun _ => [])) := Lib.hid ⟨(Blk.new _ _ _).alloc _, MapB.made _ _ (by simp) _ _, by simp, by simp, (by repeat' (first | exact Below.refl _ _ | assumption | refine Below.drew ?_ | refine Below.alloc ?_ (by first | omega | (simp; done) | (simp; omega)) _ | refine Below.setCell ?_ (by first | omega | (simp; done) | (simp; omega)) _))⟩
  generalize (w.alloc (.cells #[.int .i64 st, .slice B m.states.length cb] 41)).alloc (.map #[] 0) = w1 at *
  go_loopw [16] (fun iv wr => ∃ (i : Nat) (L : TabL) (F : TabF), i ≤ S.length ∧ iv = .int .i64 i ∧ RcW w B m.states.length cb st wr L F ∧ RS L F (fun _ => False) (PDone m S i 0)) (fun iv _ => S.length - (intOf iv).toNat)
  case atStart => exact ⟨0, [], _, by omega, rfl, R0.out, RS.start.congr fun k q c => (PDone.zero m S k q c).symm⟩
  case round =>
    clear R0
    obtain ⟨i, L, F, hi, rfl, hR, hD⟩ := hrel
    obtain ⟨wo, rfl⟩ : ∃ wo : World, wo = wr := ⟨_, rfl⟩
    have HR := Lib.hid hR; have HD := Lib.hid hD
    clear hR hD
    have i0 : (0 : Int) ≤ (i : Int) := by omega
    by_cases hlt : i < S.length
    · have i1 : (i : Int) < (S.length : Int) := by omega
      have hSr := HS.out.below HR.out.bel (Nat.le_refl _)
      have d0 := hSr.c0 i hlt; have d1 := hSr.c1 i hlt
      have hpo := HOK.out.p _ (List.getElem_mem hlt)
      have HST := Lib.hid (fun r (hr : r < (arcsQ m S[i].1).length) => PDone.step (m := m) hlt hr)
      have HNX := Lib.hid (fun (n : Nat) (hn : n = (arcsQ m S[i].1).length) => PDone.next (m := m) hlt hn)
      generalize S[i] = p at *
      obtain ⟨s, l⟩ := p
      simp only at d0 d1 hpo HST HNX
      obtain ⟨hq, hl0, hl1⟩ := hpo
      have hMr := HM.out.below HR.out.bel (Nat.le_refl _)
      obtain ⟨A', c', e1, hA'⟩ := arcQ_c HM.out hq
      replace e1 := cell_keep HR.out.bel (Nat.le_refl _) e1
      have HA := Lib.hid hA'
      have rdA := hA'.rdy
      have hal := HAL.out s
      have hlA := World.block_lt_of_cell? _ _ d0; have hlB := World.block_lt_of_cell? _ _ e1
      have q0 : (0 : Int) ≤ (s : Int) := by omega
      have q1 : (s : Int) < (m.states.length : Int) := by omega
      have kb := HR.out.box.cell; have kl := HR.out.box.lt
      obtain ⟨N, hN⟩ : ∃ N, (arcsQ m s).length = N := ⟨_, rfl⟩
      have HNN := Lib.hid hN
      rw [hN] at rdA hal e1
      clear hSr hMr hA' hN
      have BP := Lib.hid (Blk.new wo #[.int .i64 (s : Int), .int .i64 l] 130)
      have HR2 := Lib.hid (HR.out.keep (show Below wo.heap.size wo (wo.alloc (.cells #[.int .i64 (s : Int), .int .i64 l] 130)) from (Below.refl _ _).alloc (Nat.le_refl _) _))
      go_wp2_with fail
      clear kb kl d0 d1 hlA hlB e1 HR
      generalize wo.alloc (.cells #[.int .i64 (s : Int), .int .i64 l] 130) = w2 at *
      generalize wo.heap.size = gp at *
      go_loopw [28] (fun iv wr => ∃ (r : Nat) (L : TabL) (F : TabF), r ≤ N ∧ iv = .int .i64 r ∧ RcW w B m.states.length cb st wr L F ∧ RS L F (fun _ => False) (PDone m S i r) ∧ Blk wr gp #[.int .i64 (s : Int), .int .i64 l] 130) (fun iv _ => N - (intOf iv).toNat)
      case atStart => exact ⟨0, L, F, by omega, rfl, HR2.out, HD.out, BP.out⟩
      case round =>
        clear HR2 HD BP
        obtain ⟨r, L, F, hr, rfl, hR, hD, hP⟩ := hrel
        obtain ⟨wi, rfl⟩ : ∃ wo : World, wo = wr := ⟨_, rfl⟩
        have HR := Lib.hid hR; have HD := Lib.hid hD; have HP := Lib.hid hP
        clear hR hD hP
        have r0 : (0 : Int) ≤ (r : Int) := by omega
        by_cases hrl : r < N
        · have r1 : (r : Int) < (N : Int) := by omega
          have htl2 : r < (arcsQ m s).length := by rw [HNN.out]; exact hrl
          have hAr := HA.out.below HR.out.bel (Nat.le_refl _)
          have d0 := hAr.c0 r htl2; have d1 := hAr.c1 r htl2; have d2 := hAr.c2 r htl2; have d3 := hAr.c3 r htl2
          have hwa := HW.out.w s _ (List.getElem_mem htl2); have hta := HW.out.tgt s _ (List.getElem_mem htl2)
          have HSP := Lib.hid (HST.out r htl2)
          generalize (arcsQ m s)[r] = a at *
          have lA := World.block_lt_of_cell? _ _ d0
          obtain ⟨q, hq9⟩ : ∃ q : Nat, a.to = q := ⟨a.to.toNat, by omega⟩
          have hq8 : a.to.toNat = q := by omega
          rw [hq8] at HSP
          rw [hq9] at d3
          obtain ⟨wa0, wa1⟩ := hwa
          generalize hka : kOf a = k at *
          have hk1 : a.inn = k.1 := by rw [← hka]; rfl
          have hk2 : a.out = k.2 := by rw [← hka]; rfl
          rw [hk1] at d0; rw [hk2] at d1
          generalize a.wt = wt at *
          clear hAr htl2 hta hq9 hq8 hka hk1 hk2
          go_upto_region 9 with fail
          have bx : Below wi.heap.size wi ((wi.alloc (.cells #[.int .i64 k.1, .int .i64 k.2, .int .i64 wt, .int .i64 q] 78)).alloc (.cells #[.int .i64 k.1, .int .i64 k.2] 141)) := (by repeat' (first | exact Below.refl _ _ | assumption | refine Below.drew ?_ | refine Below.alloc ?_ (by first | omega | (simp; done) | (simp; omega)) _ | refine Below.setCell ?_ (by first | omega | (simp; done) | (simp; omega)) _))
          have BX : Hid (Blk ((wi.alloc (.cells #[.int .i64 k.1, .int .i64 k.2, .int .i64 wt, .int .i64 q] 78)).alloc (.cells #[.int .i64 k.1, .int .i64 k.2] 141)) wi.heap.size #[.int .i64 k.1, .int .i64 k.2, .int .i64 wt, .int .i64 q] 78) := Lib.hid ((Blk.new _ _ _).alloc _)
          have BK : Hid (Blk ((wi.alloc (.cells #[.int .i64 k.1, .int .i64 k.2, .int .i64 wt, .int .i64 q] 78)).alloc (.cells #[.int .i64 k.1, .int .i64 k.2] 141)) (wi.heap.size + 1) #[.int .i64 k.1, .int .i64 k.2] 141) := Lib.hid (Blk.new' (by simp))
          have HR3 := Lib.hid (HR.out.keep bx)
          have BP3 := Lib.hid (HP.out.step bx)
          generalize (wi.alloc (.cells #[.int .i64 k.1, .int .i64 k.2, .int .i64 wt, .int .i64 q] 78)).alloc (.cells #[.int .i64 k.1, .int .i64 k.2] 141) = wu at *
          generalize wi.heap.size + 1 = gk at *
          generalize wi.heap.size = gx at *
          clear d0 d1 d2 d3 bx lA HR HP
          go_cut [40] (fun s40 wx => s40 = .bool (assoc L k).isNone ∧ wx = wu)
          case first =>
            have kk := BK.out.cell; have lk := BK.out.lt
            cases hs : assoc L k with
            | none =>
              have hlk := HR3.out.lookN hs
              have hbo := map_nil_eq wu
              go_wp2_with fail
              go_meet
              case rel => exact ⟨by rw [hs]; rfl, rfl⟩
            | some b =>
              have hlk := HR3.out.lookK hs
              have hbo := map_nil_ne b wu
              go_wp2_with fail
              go_meet
              case rel => exact ⟨by rw [hs]; rfl, rfl⟩
          case rest =>
            obtain ⟨rfl, rfl⟩ := hcut
            go_upto_if 40 with fail
            go_cut [] (fun wx => ∃ (L' : TabL) (F' : TabF) (b : Nat), RcW w B m.states.length cb st wx L' F' ∧ RS L' F' (fun x => x = k) (PDone m S i r) ∧ assoc L' k = some b ∧ Blk wx gx #[.int .i64 k.1, .int .i64 k.2, .int .i64 wt, .int .i64 q] 78 ∧ Blk wx gk #[.int .i64 k.1, .int .i64 k.2] 141 ∧ Blk wx gp #[.int .i64 (s : Int), .int .i64 l] 130)
            case first =>
              cases hs : assoc L k with
              | none =>
                have hnk : k ∉ L.map (·.1) := (assoc_none_iff L k).1 hs
                have hbn : ∀ x ∈ L, x.2 ≠ wc.heap.size := fun x hx => by have := (HR3.out.inn x hx).1.lt; omega
                have HDN := Lib.hid (HD.out.new hnk hbn)
                have HRN := Lib.hid (HR3.out.newK hnk)
                have hmu := HR3.out.updK k
                have ha : Below wc.heap.size wc (wc.alloc (.map #[] 0)) := (Below.refl _ _).alloc (Nat.le_refl _) _
                have HAN : Hid (assoc (L ++ [(k, wc.heap.size)]) k = some wc.heap.size) := Lib.hid ((mem_assoc HRN.out.map.nd).1 (by simp))
                have BXN := Lib.hid ((BX.out.step ha).setMap (HR3.out.keep ha).map (mapObj pairV mapV (mput L k wc.heap.size)))
                have BKN := Lib.hid ((BK.out.step ha).setMap (HR3.out.keep ha).map (mapObj pairV mapV (mput L k wc.heap.size)))
                have BPN := Lib.hid ((BP3.out.step ha).setMap (HR3.out.keep ha).map (mapObj pairV mapV (mput L k wc.heap.size)))
                have kk := BK.out.cell; have lk := BK.out.lt
                clear ha hnk hbn hs
                go_wp2_with fail
                go_meet
                case rel => exact ⟨_, _, _, HRN.out, HDN.out, HAN.out, BXN.out, BKN.out, BPN.out⟩
              | some b =>
                have HDO := Lib.hid (HD.out.old (k := k) (List.mem_map.2 ⟨_, assoc_mem hs, rfl⟩))
                have HAO := Lib.hid hs
                clear hs
                go_wp2_with fail
                go_meet
                case rel => exact ⟨_, _, _, HR3.out, HDO.out, HAO.out, BX.out, BK.out, BP3.out⟩
            case rest =>
              obtain ⟨L', F', b, hR5, hD5, ha5, hx5, hk5, hp5⟩ := hcut
              obtain ⟨w5, rfl⟩ : ∃ wx : World, wx = wc := ⟨_, rfl⟩
              have HR5 := Lib.hid hR5; have HD5 := Lib.hid hD5; have HAS := Lib.hid ha5; have BX5 := Lib.hid hx5; have BK5 := Lib.hid hk5; have BP5 := Lib.hid hp5
              have HB := Lib.hid (assoc_mem ha5)
              have HON := Lib.hid (hR5.one (assoc_mem ha5))
              clear hR5 hD5 ha5 hx5 hk5 hp5 HR3 BX BK BP3 HD
              go_upto_region 11 with fail
              have kk := BK5.out.cell; have lk := BK5.out.lt; have kx := BX5.out.cell; have lx := BX5.out.lt
              have hlk := HR5.out.lookK HAS.out
              have hlk2 := HR5.out.drew.lookK HAS.out
              cases hv : assoc (F' b) q with
              | none =>
                have hli2 := HR5.out.drew.lookIN HB.out q hv
                have HPUT := Lib.hid ((HD5.out.put HB.out HON.out.1 HON.out.2 (q := q) (c := l + wt) (by rw [hv]; simp)).congr fun k' q' c' => (HSP.out k' q' c').symm)
                clear hv
                have HR6 := Lib.hid HR5.out.drew; have BX6 := Lib.hid (BX5.out.step (Below.refl _ _).drew); have BK6 := Lib.hid (BK5.out.step (Below.refl _ _).drew); have BP6 := Lib.hid (BP5.out.step (Below.refl _ _).drew)
                go_region
                clear kk lk kx lx hlk hlk2 hli2
                generalize w5.drew = w6 at *
                clear HR5 BX5 BK5 BP5
                go_upto_region 13 with fail
                have kk := BK6.out.cell; have lk := BK6.out.lt; have kx := BX6.out.cell; have lx := BX6.out.lt; have kp := BP6.out.cell; have lp := BP6.out.lt
                have hlk := HR6.out.drew.lookK HAS.out
                have hmu := HR6.out.drew.updI HB.out q (l + wt)
                have HR7 := Lib.hid (HR6.out.drew.putI HB.out q (l + wt))
                have BP7 := Lib.hid ((BP6.out.step (Below.refl _ _).drew).setMap (HR6.out.drew.inn _ HB.out).1 (mapObj natV intV (mput (F' b) q (l + wt))))
                go_region
                clear kk lk kx lx kp lp hlk hmu
                generalize setBlock w6.drew b (mapObj natV intV (mput (F' b) q (l + wt))) = w7 at *
                go_wp2_with fail
                go_roundw
                case rel => exact ⟨r + 1, L', _, by omega, by go_num, HR7.out, HPUT.out, BP7.out⟩
                case measure => simp [intOf]; omega
              | some v =>
                have hli2 := HR5.out.drew.lookI HB.out q hv
                by_cases hlv : l + wt < v
                · have HPUT := Lib.hid ((HD5.out.put HB.out HON.out.1 HON.out.2 (q := q) (c := l + wt) (by rw [hv]; intro w e; injection e with e; omega)).congr fun k' q' c' => (HSP.out k' q' c').symm)
                  clear hv
                  have HR6 := Lib.hid HR5.out.drew; have BX6 := Lib.hid (BX5.out.step (Below.refl _ _).drew); have BK6 := Lib.hid (BK5.out.step (Below.refl _ _).drew); have BP6 := Lib.hid (BP5.out.step (Below.refl _ _).drew)
                  go_region
                  clear kk lk kx lx hlk hlk2 hli2
                  generalize w5.drew = w6 at *
                  clear HR5 BX5 BK5 BP5
                  have kx := BX6.out.cell; have lx := BX6.out.lt; have kp := BP6.out.cell; have lp := BP6.out.lt
                  go_upto_region 13 with fail
                  clear kx lx kp lp
                  have kk := BK6.out.cell; have lk := BK6.out.lt; have kx := BX6.out.cell; have lx := BX6.out.lt; have kp := BP6.out.cell; have lp := BP6.out.lt
                  have hlk := HR6.out.drew.lookK HAS.out
                  have hmu := HR6.out.drew.updI HB.out q (l + wt)
                  have HR7 := Lib.hid (HR6.out.drew.putI HB.out q (l + wt))
                  have BP7 := Lib.hid ((BP6.out.step (Below.refl _ _).drew).setMap (HR6.out.drew.inn _ HB.out).1 (mapObj natV intV (mput (F' b) q (l + wt))))
                  go_region
                  clear kk lk kx lx kp lp hlk hmu
                  generalize setBlock w6.drew b (mapObj natV intV (mput (F' b) q (l + wt))) = w7 at *
                  go_wp2_with fail
                  go_roundw
                  case rel => exact ⟨r + 1, L', _, by omega, by go_num, HR7.out, HPUT.out, BP7.out⟩
                  case measure => simp [intOf]; omega
                · have HKEEP := Lib.hid ((HD5.out.keep HB.out HON.out.1 hv hlv).congr fun k' q' c' => (HSP.out k' q' c').symm)
                  clear hv
                  have HR6 := Lib.hid HR5.out.drew; have BX6 := Lib.hid (BX5.out.step (Below.refl _ _).drew); have BK6 := Lib.hid (BK5.out.step (Below.refl _ _).drew); have BP6 := Lib.hid (BP5.out.step (Below.refl _ _).drew)
                  go_region
                  clear kk lk kx lx hlk hlk2 hli2
                  generalize w5.drew = w6 at *
                  clear HR5 BX5 BK5 BP5
                  have kx := BX6.out.cell; have lx := BX6.out.lt; have kp := BP6.out.cell; have lp := BP6.out.lt
                  go_wp2_with fail
                  go_roundw
                  case rel => exact ⟨r + 1, L', F', by omega, by go_num, HR6.out, HKEEP.out, BP6.out⟩
                  case measure => simp [intOf]; omega
        · obtain rfl : r = N := by omega
          have HDN := Lib.hid (HD.out.congr fun k q c => HNX.out r HNN.out.symm k q c)
          go_wp2_with fail
          go_roundw
          case rel => exact ⟨i + 1, L, F, by omega, by go_num, HR.out, HDN.out⟩
          case measure => simp [intOf]; omega
    · obtain rfl : i = S.length := by omega
      have HDA := Lib.hid (HD.out.congr fun k q c => PDone.all m S k q c)
      go_wp2_with fail
      go_ret
      exact ⟨rfl, L, F, HR.out, HDA.out⟩
end Go.Proofs.YtkmnacchiagipaaDoor
