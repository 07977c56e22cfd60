/- weigh.Cross. -/
import Derived.Test.YtfikkpgigicepaaWeighBase
import Derived.Test.YtfikkpgigicepaaBuild
import Derived.Test.YtfikkpgigicepaaBlk
import Derived.Test.YtfikkpgigicepaaCheck
import Derived.Deep.DeepCutAuto
import Derived.Deep.CutBlock
import Derived.LoopTactic
import Derived.IntWalk
namespace Go.Proofs.Ytfikkpgigicepaa
open Go.RowKit

def crossS (x y : List Int) (i : Nat) : StateL := ⟨1000000001, [⟨x.getD i 0, y.getD i 0, 0, i + 1⟩]⟩
def crossN (x y : List Int) : Nat := max x.length y.length
def crossM (x y : List Int) : MachL := ⟨0, (List.range (crossN x y)).map (crossS x y) ++ [⟨0, []⟩]⟩

set_option maxRecDepth 100000 in
set_option maxHeartbeats 8000000 in
theorem Cross_any (A1 A2 : Option Addr) (c1 c2 : Nat) (x y : List Int) (w : World) (hx : Rd w A1 x.length 1 (icells x)) (hy : Rd w A2 y.length 1 (icells y)) (hlx : x.length ≤ 12) (hly : y.length ≤ 12) (hbx : ∀ a ∈ x, 1 ≤ a ∧ a ≤ 1000) (hby : ∀ a ∈ y, 1 ≤ a ∧ a ≤ 1000) :
    Calls Try.prog 52 #[.slice A1 x.length c1, .slice A2 y.length c2] w fun e w' => ∃ mv, e = .returned (.tuple #[mv, .int .i64 0]) ∧ OwnMach w' w.heap.size mv (crossM x y) ∧ Below w.heap.size w w' := by
  have WX := Lib.hid (fun W (hb : Below w.heap.size w W) => wword_ok A1 x.length c1 x W (hx.below hb rfl) hlx hbx)
  have WY := Lib.hid (fun W (hb : Below w.heap.size w W) => wword_ok A2 y.length c2 y W (hy.below hb rfl) hly hby)
  have rx := hx.rdy; have ry := hy.rdy
  have HX := Lib.hid hx; have HY := Lib.hid hy
  have hmx : crossN x y ≤ 12 := by unfold crossN; omega
  have hmi : max (x.length : Int) (y.length : Int) = (crossN x y : Nat) := by unfold crossN; omega
  have HCM : Hid (crossM x y = ⟨0, (List.range (crossN x y)).map (crossS x y) ++ [⟨0, []⟩]⟩) := Lib.hid rfl
  clear hx hy hbx hby
  go_enter Try.func52, Try.ntmps52
  go_wp2_with fail
  refine (WX.out _ (by repeat' (first | exact Below.refl _ _ | assumption | refine Below.drew ?_ | refine Below.alloc ?_ (by first | omega | (simp; done) | (simp; omega)) _ | refine Below.setCell ?_ (by first | omega | (simp; done) | (simp; omega)) _))).mono ?_; rintro e w2 ⟨rfl, rfl⟩
  go_wp2_with fail
  refine (WY.out _ (by repeat' (first | exact Below.refl _ _ | assumption | refine Below.drew ?_ | refine Below.alloc ?_ (by first | omega | (simp; done) | (simp; omega)) _ | refine Below.setCell ?_ (by first | omega | (simp; done) | (simp; omega)) _))).mono ?_; rintro e w2 ⟨rfl, rfl⟩
  go_upto_region 8 with fail
  clear WX WY hmi
  have Z0 : Blk ((w.alloc (.cells #[.int .i64 0, .slice none 0 0] 28)).alloc (.cells #[.int .i64 0, .slice none 0 0] 28)) w.heap.size #[.int .i64 0, .slice none 0 0] _ := (Blk.new _ _ _).alloc _
  have Z1 : Blk ((w.alloc (.cells #[.int .i64 0, .slice none 0 0] 28)).alloc (.cells #[.int .i64 0, .slice none 0 0] 28)) (w.heap.size + 1) #[.int .i64 0, .slice none 0 0] _ := Blk.new' (by simp)
  have b1 : Below w.heap.size w ((w.alloc (.cells #[.int .i64 0, .slice none 0 0] 28)).alloc (.cells #[.int .i64 0, .slice none 0 0] 28)) := (by repeat' (first | exact Below.refl _ _ | assumption | refine Below.drew ?_ | refine Below.alloc ?_ (by first | omega | (simp; done) | (simp; omega)) _ | refine Below.setCell ?_ (by first | omega | (simp; done) | (simp; omega)) _))
  generalize (w.alloc (.cells #[.int .i64 0, .slice none 0 0] 28)).alloc (.cells #[.int .i64 0, .slice none 0 0] 28) = w1 at *
  go_cut [27, 28] (fun mv iv wx => mv = .int .i64 (crossN x y : Nat) ∧ iv = .int .i64 0 ∧ wx = w1)
  case first =>
    by_cases h : x.length < y.length
    · have hN : crossN x y = y.length := by unfold crossN; omega
      have h2 : (x.length : Int) < (y.length : Int) := by omega
      have HN := Lib.hid hN
      clear hN
      go_wp2_with fail
      all_goals
        go_meet
        case rel => exact ⟨by rw [HN.out], rfl, rfl⟩
    · have hN : crossN x y = x.length := by unfold crossN; omega
      have h2 : ¬ (x.length : Int) < (y.length : Int) := by omega
      have HN := Lib.hid hN
      clear hN
      go_wp2_with fail
      all_goals
        go_meet
        case rel => exact ⟨by rw [HN.out], rfl, rfl⟩
  case rest =>
  obtain ⟨rfl, rfl, rfl⟩ := hcut
  obtain ⟨w1, rfl⟩ : ∃ w1 : World, w1 = wc := ⟨_, rfl⟩
  generalize hNN : crossN x y = N at *
  have HNN := Lib.hid hNN; clear hNN
  have M0 := MB.start (w1 := w1) (g := w.heap.size + 1) (st := 0) (by simpa using Z1.cell 0) (by simpa using Z1.cell 1) (Z1.froz 0) (Z1.froz 1)
  have HZ0 := Lib.hid Z0
  have sz1 : w.heap.size + 1 < w1.heap.size := Z1.lt
  clear Z0 Z1
  go_wp2_with fail
  go_loopw [28] (fun iv wr => ∃ (k : Nat) (sv : Value) (vs : List Value), k ≤ N ∧ iv = .int .i64 k ∧ MB w1 wr (w.heap.size + 1) 0 sv vs ((List.range k).map (crossS x y))) (fun iv _ => N - (intOf iv).toNat)
  case atStart => exact ⟨0, _, _, by omega, rfl, M0⟩
  case round =>
    obtain ⟨k, sv, vs, hk, rfl, hM⟩ := hrel
    have HM := Lib.hid hM
    have bw := hM.below b1 (by omega)
    by_cases hlt : k < N
    · have hwr : IntKind.i64.wrap ((k : Int) + 1) = (k : Int) + 1 := IntWalk.i64_in _ (by omega)
      have lm := hM.lt
      go_upto_region 12 with fail
      have BA : Blk (wr.alloc (.cells #[.int .i64 0, .int .i64 0, .int .i64 0, .int .i64 ((k : Int) + 1)] 44)) wr.heap.size _ _ := Blk.new _ _ _
      have ba : Below wr.heap.size wr (wr.alloc (.cells #[.int .i64 0, .int .i64 0, .int .i64 0, .int .i64 ((k : Int) + 1)] 44)) := (by repeat' (first | exact Below.refl _ _ | assumption | refine Below.drew ?_ | refine Below.alloc ?_ (by first | omega | (simp; done) | (simp; omega)) _ | refine Below.setCell ?_ (by first | omega | (simp; done) | (simp; omega)) _))
      generalize wr.alloc (.cells #[.int .i64 0, .int .i64 0, .int .i64 0, .int .i64 ((k : Int) + 1)] 44) = w3 at *
      go_upto_if 37 with fail
      go_cut [] (fun wx => Blk wx wr.heap.size #[.int .i64 (x.getD k 0), .int .i64 0, .int .i64 0, .int .i64 ((k : Int) + 1)] 44 ∧ Below wr.heap.size wr wx)
      case first =>
        have kf := BA.froz; have kc := BA.cell; have kl := BA.lt
        by_cases hx : k < x.length
        · have hcell := rdi_cell (HX.out.below (bw.trans (ba.mono bw.size)) rfl) k hx
          have hg : x.getD k 0 = x[k] := by simp [hx]
          have HG := Lib.hid hg
          generalize x[k] = a at *
          have lA := World.block_lt_of_cell? _ _ hcell
          have g1 : (k : Int) < (x.length : Int) := by omega
          clear hg
          go_wp2_with fail
          go_meet
          case rel => exact ⟨(BA.put 0 _).eq (by rw [HG.out]; rfl), ba.setCell (by simp) _⟩
        · have g1 : ¬ (k : Int) < (x.length : Int) := by omega
          have hg : x.getD k 0 = 0 := by rw [List.getD_eq_getElem?_getD, List.getElem?_eq_none (by omega)]; rfl
          have HG := Lib.hid hg
          clear hg
          go_wp2_with fail
          go_meet
          case rel => exact ⟨BA.eq (by rw [HG.out]), ba⟩
      case rest =>
        obtain ⟨BB, bb⟩ := hcut
        obtain ⟨w4, rfl⟩ : ∃ w4 : World, w4 = wc := ⟨_, rfl⟩
        clear BA ba
        go_upto_if 46 with fail
        go_cut [] (fun wx => Blk wx wr.heap.size #[.int .i64 (x.getD k 0), .int .i64 (y.getD k 0), .int .i64 0, .int .i64 ((k : Int) + 1)] 44 ∧ Below wr.heap.size wr wx)
        case first =>
          have kf := BB.froz; have kc := BB.cell; have kl := BB.lt
          by_cases hy : k < y.length
          · have hcell := rdi_cell (HY.out.below (bw.trans (bb.mono bw.size)) rfl) k hy
            have hg : y.getD k 0 = y[k] := by simp [hy]
            have HG := Lib.hid hg
            generalize y[k] = a at *
            have lA := World.block_lt_of_cell? _ _ hcell
            have g1 : (k : Int) < (y.length : Int) := by omega
            clear hg
            go_wp2_with fail
            go_meet
            case rel => exact ⟨(BB.put 1 _).eq (by rw [HG.out]; rfl), bb.setCell (by simp) _⟩
          · have g1 : ¬ (k : Int) < (y.length : Int) := by omega
            have hg : y.getD k 0 = 0 := by rw [List.getD_eq_getElem?_getD, List.getElem?_eq_none (by omega)]; rfl
            have HG := Lib.hid hg
            clear hg
            go_wp2_with fail
            go_meet
            case rel => exact ⟨BB.eq (by rw [HG.out]), bb⟩
        case rest =>
          obtain ⟨BC, bc⟩ := hcut
          obtain ⟨w5, rfl⟩ : ∃ w5 : World, w5 = wc := ⟨_, rfl⟩
          clear BB bb
          have hsn : (List.range (k + 1)).map (crossS x y) = (List.range k).map (crossS x y) ++ [crossS x y k] := by simp [List.range_succ]
          have HSN := Lib.hid hsn
          have hcs : crossS x y k = ⟨1000000001, [⟨x.getD k 0, y.getD k 0, 0, (k : Int) + 1⟩]⟩ := rfl
          have HCS := Lib.hid hcs
          generalize x.getD k 0 = a at *
          generalize y.getD k 0 = b at *
          have hM5 := HM.out.keep bc
          have hM6 := hM5.keep (wx := w5.alloc (.cells #[.int .i64 a, .int .i64 b, .int .i64 0, .int .i64 ((k : Int) + 1)] 44)) (by repeat' (first | exact Below.refl _ _ | assumption | refine Below.drew ?_ | refine Below.alloc ?_ (by first | omega | (simp; done) | (simp; omega)) _ | refine Below.setCell ?_ (by first | omega | (simp; done) | (simp; omega)) _))
          have HMi := Lib.hid hM6
          have hRow := hM6.own.row
          have hln : ((List.range k).map (crossS x y)).length = k := by simp
          rw [hln] at hRow
          have HRW := Lib.hid hRow
          have kc := BC.cell; have kl := BC.lt
          have y1 := hM5.m1; have y2 := hM5.f1; have y3 := hM5.lt
          have z1 := hM6.m1; have z2 := hM6.f1; have z3 := hM6.lt
          have zs := hM6.grown.size
          have zt := hM5.grown.size
          have hq1 : k + 1 ≤ 1000000 := by omega
          have hAO : OwnArcs (w5.alloc (.cells #[.int .i64 a, .int .i64 b, .int .i64 0, .int .i64 ((k : Int) + 1)] 44)) w1.heap.size (.slice (some ⟨w5.heap.size, 0, none⟩) 1 1) [⟨a, b, 0, (k : Int) + 1⟩] :=
            World.ownsRow_lit (base := w1.heap.size) (e := 44) (size := 4) w5 #[.int .i64 a, .int .i64 b, .int .i64 0, .int .i64 ((k : Int) + 1)] 1 zt (by simp [maxLen]) rfl
          have HAO := Lib.hid hAO
          clear hRow hM hM5 hM6 hsn hcs hAO
          go_wp2_with (at_builtin; refine wpList_app1 rfl _ _ rfl eltState w1.heap.size sv k _ rfl (w5.alloc (.cells #[.int .i64 a, .int .i64 b, .int .i64 0, .int .i64 ((k : Int) + 1)] 44)) HRW.out #[.int .i64 1000000001, .slice (some ⟨w5.heap.size, 0, none⟩) 1 1] rfl (w5.alloc (.cells #[.int .i64 a, .int .i64 b, .int .i64 0, .int .i64 ((k : Int) + 1)] 44)).heap.size rfl (by simp [go_sem]) rfl (by simp [Value.oneCell']) hq1 (by omega) zs ?_; intro g4 cap w6 hown4 hg4 hat hlt4; obtain ⟨e1, e2, e3⟩ := HMi.out.far hg4)
          have hM2 := HMi.out.app (crossS x y k) (av := .slice (some ⟨w5.heap.size, 0, none⟩) 1 1) (by rw [HCS.out]; exact HAO.out) (k := k + 1) (by simp) hg4 (by rw [HCS.out]; exact hown4)
          rw [← HSN.out] at hM2
          have HM2 := Lib.hid hM2
          clear hM2 hown4 hg4
          go_roundw
          case rel => exact ⟨k + 1, _, _, by omega, by go_num, HM2.out⟩
          case measure => simp [intOf]; omega
    · obtain rfl : k = N := by omega
      have hsn : (crossM x y).states = (List.range k).map (crossS x y) ++ [⟨0, []⟩] := by rw [HCM.out]
      have HSN := Lib.hid hsn
      have hln : ((List.range k).map (crossS x y)).length = k := by simp
      have hRow := hM.own.row
      rw [hln] at hRow
      have HRW := Lib.hid hRow
      have z1 := hM.m1; have z2 := hM.f1; have z3 := hM.lt
      have zs := hM.grown.size
      have hq1 : k + 1 ≤ 1000000 := by omega
      clear hRow hM hsn
      go_upto_region 18 with fail
      go_upto_region 19 with (at_builtin; refine wpList_app1 rfl _ _ rfl eltState w1.heap.size sv k _ rfl wr HRW.out #[.int .i64 0, .slice none 0 0] rfl wr.heap.size rfl rfl rfl (by simp [Value.oneCell']) hq1 (by omega) zs ?_; intro g4 cap w6 hown4 hg4 hat hlt4; obtain ⟨e1, e2, e3⟩ := HM.out.far hg4)
      have hM2 := HM.out.app ⟨0, []⟩ (av := .slice none 0 0) (OwnArcs.nil _ _) (k := k + 1) (by simp) hg4 hown4
      rw [← HSN.out] at hM2
      clear hown4 hg4 e1 e2 e3
      generalize w6.setCell ⟨w.heap.size + 1, 1, none⟩ (.slice (some ⟨g4, 0, none⟩) (k + 1) cap) = w7 at *
      have z0' := hM2.m0; have z1' := hM2.m1; have z3' := hM2.lt
      have HM2 := Lib.hid hM2
      have Z0 := HZ0.out.grown hM2.grown (by simp)
      have k0 := Z0.cell; have f0 := Z0.froz; have l0 := Z0.lt
      have b7 := hM2.below b1 (by omega)
      clear hM2 z1 z2 z3
      go_wp2_with fail
      refine bodyPost_ret (v := .tuple #[.agg #[.int .i64 0, .slice (some ⟨g4, 0, none⟩) (k + 1) cap], .int .i64 0]) (by simp [results, Try.results52, go_sem, *]) rfl ⟨_, rfl, ?_, ?_⟩
      · exact ⟨_, rfl, _, ((HM2.out.own.setCell (a := ⟨w.heap.size, 0, none⟩) (by simp; omega) _).setCell (a := ⟨w.heap.size, 1, none⟩) (by simp; omega) _).mono (by omega)⟩
      · exact (b7.setCell (by simp) _).setCell (by simp) _
end Go.Proofs.Ytfikkpgigicepaa
