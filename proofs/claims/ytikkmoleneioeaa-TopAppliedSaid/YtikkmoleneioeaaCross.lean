/- weigh.Cross. -/
/- What a cross costs (plain). -/
import Derived.Test.YtikkmoleneioeaaWeighBase
import Derived.Test.YtikkmoleneioeaaBuild
import Derived.Test.YtikkmoleneioeaaSlices
import Derived.Test.YtikkmoleneioeaaCheck
import Derived.Deep.DeepCutAuto
import Derived.Deep.CutBlock
import Derived.LoopTactic
import Derived.IntWalk
import Derived.Test.YtikkmoleneioeaaCostMade
namespace Go.Proofs.Ytikkmoleneioeaa
open Go.RowKit

def crossS (x y : List Int) (i : Nat) : StateL := ⟨1000000001, [⟨x.getD i 0, y.getD i 0, 0, i + 1⟩]⟩
def crossN (x y : List Int) : Nat := max x.length y.length
def crossM (x y : List Int) : MachL := ⟨0, (List.range (crossN x y)).map (crossS x y) ++ [⟨0, []⟩]⟩

set_option maxRecDepth 100000 in
set_option maxHeartbeats 8000000 in
theorem Cross_any (A1 A2 : Option Addr) (c1 c2 : Nat) (x y : List Int) (w : World) (hx : Rd w A1 x.length 1 (icells x)) (hy : Rd w A2 y.length 1 (icells y)) (hlx : x.length ≤ 12) (hly : y.length ≤ 12) (hbx : ∀ a ∈ x, 1 ≤ a ∧ a ≤ 1000) (hby : ∀ a ∈ y, 1 ≤ a ∧ a ≤ 1000) :
    Calls Try.prog 37 #[.slice A1 x.length c1, .slice A2 y.length c2] w fun e w' => ∃ mv, e = .returned (.tuple #[mv, .int .i64 0]) ∧ OwnMach w' w.heap.size mv (crossM x y) ∧ Below w.heap.size w w' := by
  have WX := Lib.hid (fun W (hb : Below w.heap.size w W) => wword_ok A1 x.length c1 x W (hx.below hb rfl) hlx hbx)
  have WY := Lib.hid (fun W (hb : Below w.heap.size w W) => wword_ok A2 y.length c2 y W (hy.below hb rfl) hly hby)
  have rx := hx.rdy; have ry := hy.rdy
  have HX := Lib.hid hx; have HY := Lib.hid hy
  have hmx : crossN x y ≤ 12 := by unfold crossN; omega
  have hmi : max (x.length : Int) (y.length : Int) = (crossN x y : Nat) := by unfold crossN; omega
  have HCM : Hid (crossM x y = ⟨0, (List.range (crossN x y)).map (crossS x y) ++ [⟨0, []⟩]⟩) := Lib.hid rfl
  clear hx hy hbx hby
  go_enter Try.func37, Try.ntmps37
  go_wp2_with fail
  refine (WX.out _ (by repeat' (first | exact Below.refl _ _ | assumption | refine Below.drew ?_ | refine Below.alloc ?_ (by first | omega | (simp; done) | (simp; omega)) _ | refine Below.setCell ?_ (by first | omega | (simp; done) | (simp; omega)) _))).mono ?_; rintro e w2 ⟨rfl, rfl⟩
  go_wp2_with fail
  refine (WY.out _ (by repeat' (first | exact Below.refl _ _ | assumption | refine Below.drew ?_ | refine Below.alloc ?_ (by first | omega | (simp; done) | (simp; omega)) _ | refine Below.setCell ?_ (by first | omega | (simp; done) | (simp; omega)) _))).mono ?_; rintro e w2 ⟨rfl, rfl⟩
  go_upto_region 8 with fail
  clear WX WY hmi
  have Z0 : Blk ((w.alloc (.cells #[.int .i64 0, .slice none 0 0] 28)).alloc (.cells #[.int .i64 0, .slice none 0 0] 28)) w.heap.size #[.int .i64 0, .slice none 0 0] _ := (Blk.new _ _ _).alloc _
  have Z1 : Blk ((w.alloc (.cells #[.int .i64 0, .slice none 0 0] 28)).alloc (.cells #[.int .i64 0, .slice none 0 0] 28)) (w.heap.size + 1) #[.int .i64 0, .slice none 0 0] _ := Blk.new' (by simp)
  have b1 : Below w.heap.size w ((w.alloc (.cells #[.int .i64 0, .slice none 0 0] 28)).alloc (.cells #[.int .i64 0, .slice none 0 0] 28)) := (by repeat' (first | exact Below.refl _ _ | assumption | refine Below.drew ?_ | refine Below.alloc ?_ (by first | omega | (simp; done) | (simp; omega)) _ | refine Below.setCell ?_ (by first | omega | (simp; done) | (simp; omega)) _))
  generalize (w.alloc (.cells #[.int .i64 0, .slice none 0 0] 28)).alloc (.cells #[.int .i64 0, .slice none 0 0] 28) = w1 at *
  go_cut [27, 28] (fun mv iv wx => mv = .int .i64 (crossN x y : Nat) ∧ iv = .int .i64 0 ∧ wx = w1)
  case first =>
    by_cases h : x.length < y.length
    · have hN : crossN x y = y.length := by unfold crossN; omega
      have h2 : (x.length : Int) < (y.length : Int) := by omega
      have HN := Lib.hid hN
      clear hN
      go_wp2_with fail
      all_goals
        go_meet
        case rel => exact ⟨by rw [HN.out], rfl, rfl⟩
    · have hN : crossN x y = x.length := by unfold crossN; omega
      have h2 : ¬ (x.length : Int) < (y.length : Int) := by omega
      have HN := Lib.hid hN
      clear hN
      go_wp2_with fail
      all_goals
        go_meet
        case rel => exact ⟨by rw [HN.out], rfl, rfl⟩
  case rest =>
  obtain ⟨rfl, rfl, rfl⟩ := hcut
  obtain ⟨w1, rfl⟩ : ∃ w1 : World, w1 = wc := ⟨_, rfl⟩
  generalize hNN : crossN x y = N at *
  have HNN := Lib.hid hNN; clear hNN
  have M0 := MB.start (w1 := w1) (g := w.heap.size + 1) (st := 0) (by simpa using Z1.cell 0) (by simpa using Z1.cell 1) (Z1.froz 0) (Z1.froz 1)
  have HZ0 := Lib.hid Z0
  have sz1 : w.heap.size + 1 < w1.heap.size := Z1.lt
  clear Z0 Z1
  go_wp2_with fail
  go_loopw [28] (fun iv wr => ∃ (k : Nat) (sv : Value) (vs : List Value), k ≤ N ∧ iv = .int .i64 k ∧ MB w1 wr (w.heap.size + 1) 0 sv vs ((List.range k).map (crossS x y))) (fun iv _ => N - (intOf iv).toNat)
  case atStart => exact ⟨0, _, _, by omega, rfl, M0⟩
  case round =>
    obtain ⟨k, sv, vs, hk, rfl, hM⟩ := hrel
    have HM := Lib.hid hM
    have bw := hM.below b1 (by omega)
    by_cases hlt : k < N
    · have hwr : IntKind.i64.wrap ((k : Int) + 1) = (k : Int) + 1 := IntWalk.i64_in _ (by omega)
      have lm := hM.lt
      go_upto_region 12 with fail
      have BA : Blk (wr.alloc (.cells #[.int .i64 0, .int .i64 0, .int .i64 0, .int .i64 ((k : Int) + 1)] 65)) wr.heap.size _ _ := Blk.new _ _ _
      have ba : Below wr.heap.size wr (wr.alloc (.cells #[.int .i64 0, .int .i64 0, .int .i64 0, .int .i64 ((k : Int) + 1)] 65)) := (by repeat' (first | exact Below.refl _ _ | assumption | refine Below.drew ?_ | refine Below.alloc ?_ (by first | omega | (simp; done) | (simp; omega)) _ | refine Below.setCell ?_ (by first | omega | (simp; done) | (simp; omega)) _))
      generalize wr.alloc (.cells #[.int .i64 0, .int .i64 0, .int .i64 0, .int .i64 ((k : Int) + 1)] 65) = w3 at *
      go_upto_if 37 with fail
      go_cut [] (fun wx => Blk wx wr.heap.size #[.int .i64 (x.getD k 0), .int .i64 0, .int .i64 0, .int .i64 ((k : Int) + 1)] 65 ∧ Below wr.heap.size wr wx)
      case first =>
        have kf := BA.froz; have kc := BA.cell; have kl := BA.lt
        by_cases hx : k < x.length
        · have hcell := rdi_cell (HX.out.below (bw.trans (ba.mono bw.size)) rfl) k hx
          have hg : x.getD k 0 = x[k] := by simp [hx]
          have HG := Lib.hid hg
          generalize x[k] = a at *
          have lA := World.block_lt_of_cell? _ _ hcell
          have g1 : (k : Int) < (x.length : Int) := by omega
          clear hg
          go_wp2_with fail
          go_meet
          case rel => exact ⟨(BA.put 0 _).eq (by rw [HG.out]; rfl), ba.setCell (by simp) _⟩
        · have g1 : ¬ (k : Int) < (x.length : Int) := by omega
          have hg : x.getD k 0 = 0 := by rw [List.getD_eq_getElem?_getD, List.getElem?_eq_none (by omega)]; rfl
          have HG := Lib.hid hg
          clear hg
          go_wp2_with fail
          go_meet
          case rel => exact ⟨BA.eq (by rw [HG.out]), ba⟩
      case rest =>
        obtain ⟨BB, bb⟩ := hcut
        obtain ⟨w4, rfl⟩ : ∃ w4 : World, w4 = wc := ⟨_, rfl⟩
        clear BA ba
        go_upto_if 46 with fail
        go_cut [] (fun wx => Blk wx wr.heap.size #[.int .i64 (x.getD k 0), .int .i64 (y.getD k 0), .int .i64 0, .int .i64 ((k : Int) + 1)] 65 ∧ Below wr.heap.size wr wx)
        case first =>
          have kf := BB.froz; have kc := BB.cell; have kl := BB.lt
          by_cases hy : k < y.length
          · have hcell := rdi_cell (HY.out.below (bw.trans (bb.mono bw.size)) rfl) k hy
            have hg : y.getD k 0 = y[k] := by simp [hy]
            have HG := Lib.hid hg
            generalize y[k] = a at *
            have lA := World.block_lt_of_cell? _ _ hcell
            have g1 : (k : Int) < (y.length : Int) := by omega
            clear hg
            go_wp2_with fail
            go_meet
            case rel => exact ⟨(BB.put 1 _).eq (by rw [HG.out]; rfl), bb.setCell (by simp) _⟩
          · have g1 : ¬ (k : Int) < (y.length : Int) := by omega
            have hg : y.getD k 0 = 0 := by rw [List.getD_eq_getElem?_getD, List.getElem?_eq_none (by omega)]; rfl
            have HG := Lib.hid hg
            clear hg
            go_wp2_with fail
            go_meet
            case rel => exact ⟨BB.eq (by rw [HG.out]), bb⟩
        case rest =>
          obtain ⟨BC, bc⟩ := hcut
          obtain ⟨w5, rfl⟩ : ∃ w5 : World, w5 = wc := ⟨_, rfl⟩
          clear BB bb
          have hsn : (List.range (k + 1)).map (crossS x y) = (List.range k).map (crossS x y) ++ [crossS x y k] := by simp [List.range_succ]
          have HSN := Lib.hid hsn
          have hcs : crossS x y k = ⟨1000000001, [⟨x.getD k 0, y.getD k 0, 0, (k : Int) + 1⟩]⟩ := rfl
          have HCS := Lib.hid hcs
          generalize x.getD k 0 = a at *
          generalize y.getD k 0 = b at *
          have hM5 := HM.out.keep bc
          have hM6 := hM5.keep (wx := w5.alloc (.cells #[.int .i64 a, .int .i64 b, .int .i64 0, .int .i64 ((k : Int) + 1)] 65)) (by repeat' (first | exact Below.refl _ _ | assumption | refine Below.drew ?_ | refine Below.alloc ?_ (by first | omega | (simp; done) | (simp; omega)) _ | refine Below.setCell ?_ (by first | omega | (simp; done) | (simp; omega)) _))
          have HMi := Lib.hid hM6
          have hRow := hM6.own.row
          have hln : ((List.range k).map (crossS x y)).length = k := by simp
          rw [hln] at hRow
          have HRW := Lib.hid hRow
          have kc := BC.cell; have kl := BC.lt
          have y1 := hM5.m1; have y2 := hM5.f1; have y3 := hM5.lt
          have z1 := hM6.m1; have z2 := hM6.f1; have z3 := hM6.lt
          have zs := hM6.grown.size
          have zt := hM5.grown.size
          have hq1 : k + 1 ≤ 1000000 := by omega
          have hAO : OwnArcs (w5.alloc (.cells #[.int .i64 a, .int .i64 b, .int .i64 0, .int .i64 ((k : Int) + 1)] 65)) w1.heap.size (.slice (some ⟨w5.heap.size, 0, none⟩) 1 1) [⟨a, b, 0, (k : Int) + 1⟩] :=
            World.ownsRow_lit (base := w1.heap.size) (e := 65) (size := 4) w5 #[.int .i64 a, .int .i64 b, .int .i64 0, .int .i64 ((k : Int) + 1)] 1 zt (by simp [maxLen]) rfl
          have HAO := Lib.hid hAO
          clear hRow hM hM5 hM6 hsn hcs hAO
          go_wp2_with (at_builtin; refine wpList_app1 rfl _ _ rfl eltState w1.heap.size sv k _ rfl (w5.alloc (.cells #[.int .i64 a, .int .i64 b, .int .i64 0, .int .i64 ((k : Int) + 1)] 65)) HRW.out #[.int .i64 1000000001, .slice (some ⟨w5.heap.size, 0, none⟩) 1 1] rfl (w5.alloc (.cells #[.int .i64 a, .int .i64 b, .int .i64 0, .int .i64 ((k : Int) + 1)] 65)).heap.size rfl (by simp [go_sem]) rfl (by simp [Value.oneCell']) hq1 (by omega) zs ?_; intro g4 cap w6 hown4 hg4 hat hlt4; obtain ⟨e1, e2, e3⟩ := HMi.out.far hg4)
          have hM2 := HMi.out.app (crossS x y k) (av := .slice (some ⟨w5.heap.size, 0, none⟩) 1 1) (by rw [HCS.out]; exact HAO.out) (k := k + 1) (by simp) hg4 (by rw [HCS.out]; exact hown4)
          rw [← HSN.out] at hM2
          have HM2 := Lib.hid hM2
          clear hM2 hown4 hg4
          go_roundw
          case rel => exact ⟨k + 1, _, _, by omega, by go_num, HM2.out⟩
          case measure => simp [intOf]; omega
    · obtain rfl : k = N := by omega
      have hsn : (crossM x y).states = (List.range k).map (crossS x y) ++ [⟨0, []⟩] := by rw [HCM.out]
      have HSN := Lib.hid hsn
      have hln : ((List.range k).map (crossS x y)).length = k := by simp
      have hRow := hM.own.row
      rw [hln] at hRow
      have HRW := Lib.hid hRow
      have z1 := hM.m1; have z2 := hM.f1; have z3 := hM.lt
      have zs := hM.grown.size
      have hq1 : k + 1 ≤ 1000000 := by omega
      clear hRow hM hsn
      go_upto_region 18 with fail
      go_upto_region 19 with (at_builtin; refine wpList_app1 rfl _ _ rfl eltState w1.heap.size sv k _ rfl wr HRW.out #[.int .i64 0, .slice none 0 0] rfl wr.heap.size rfl rfl rfl (by simp [Value.oneCell']) hq1 (by omega) zs ?_; intro g4 cap w6 hown4 hg4 hat hlt4; obtain ⟨e1, e2, e3⟩ := HM.out.far hg4)
      have hM2 := HM.out.app ⟨0, []⟩ (av := .slice none 0 0) (OwnArcs.nil _ _) (k := k + 1) (by simp) hg4 hown4
      rw [← HSN.out] at hM2
      clear hown4 hg4 e1 e2 e3
      generalize w6.setCell ⟨w.heap.size + 1, 1, none⟩ (.slice (some ⟨g4, 0, none⟩) (k + 1) cap) = w7 at *
      have z0' := hM2.m0; have z1' := hM2.m1; have z3' := hM2.lt
      have HM2 := Lib.hid hM2
      have Z0 := HZ0.out.grown hM2.grown (by simp)
      have k0 := Z0.cell; have f0 := Z0.froz; have l0 := Z0.lt
      have b7 := hM2.below b1 (by omega)
      clear hM2 z1 z2 z3
      go_wp2_with fail
      refine bodyPost_ret (v := .tuple #[.agg #[.int .i64 0, .slice (some ⟨g4, 0, none⟩) (k + 1) cap], .int .i64 0]) (by simp [results, Try.results37, go_sem, *]) rfl ⟨_, rfl, ?_, ?_⟩
      · exact ⟨_, rfl, _, ((HM2.out.own.setCell (a := ⟨w.heap.size, 0, none⟩) (by simp; omega) _).setCell (a := ⟨w.heap.size, 1, none⟩) (by simp; omega) _).mono (by omega)⟩
      · exact (b7.setCell (by simp) _).setCell (by simp) _
end Go.Proofs.Ytikkmoleneioeaa

namespace Go.Proofs.Ytikkmoleneioeaa

section
variable {x y : List Int}
theorem cross_len (x y : List Int) : (crossM x y).states.length = crossN x y + 1 := by simp [crossM]
theorem cross_get (x y : List Int) (k : Nat) (hk : k < crossN x y) : (crossM x y).states[k]? = some (crossS x y k) := by
  simp [crossM, List.getElem?_append_left, hk]
theorem cross_last (x y : List Int) : (crossM x y).states[crossN x y]? = some ⟨0, []⟩ := by
  simp [crossM]
theorem getD_b {x : List Int} (hx : ∀ a ∈ x, 1 ≤ a ∧ a ≤ 1000) (k : Nat) : 0 ≤ x.getD k 0 ∧ x.getD k 0 ≤ 1000 ∧ (x.getD k 0 = 0 ↔ x.length ≤ k) := by
  rw [List.getD_eq_getElem?_getD]
  by_cases h : k < x.length
  · rw [List.getElem?_eq_getElem h]
    have := hx _ (List.getElem_mem h)
    simp only [Option.getD_some]; omega
  · rw [List.getElem?_eq_none (by omega)]
    exact ⟨by simp, by simp, by simp; omega⟩
theorem cross_mem {s : StateL} (h : s ∈ (crossM x y).states) : (∃ k, k < crossN x y ∧ s = crossS x y k) ∨ s = ⟨0, []⟩ := by
  unfold crossM at h
  rcases List.mem_append.1 h with h | h
  · obtain ⟨k, hk, rfl⟩ := List.mem_map.1 h
    exact .inl ⟨k, List.mem_range.1 hk, rfl⟩
  · simp at h; exact .inr h
theorem cross_valid (hx : ∀ a ∈ x, 1 ≤ a ∧ a ≤ 1000) (hy : ∀ a ∈ y, 1 ≤ a ∧ a ≤ 1000) (hn : crossN x y ≤ 12) : Valid (crossM x y) := by
  have hl := cross_len x y
  refine ⟨by omega, ?_, by simp [crossM], by rw [hl]; simp [crossM], fun s hs => ?_⟩
  · have key : ∀ l : List StateL, (∀ s ∈ l, s.arcs.length ≤ 1) → arcsOf l ≤ l.length := by
      intro l
      induction l with
      | nil => intro _; simp [arcsOf]
      | cons s l ih =>
        intro h
        have h1 := h s (by simp)
        have h2 := ih (fun z hz => h z (by simp [hz]))
        unfold arcsOf at *
        simp only [List.map_cons, List.sum_cons, List.length_cons]; omega
    have := key (crossM x y).states (fun s hs => by rcases cross_mem hs with ⟨k, _, rfl⟩ | rfl <;> simp [crossS])
    omega
  · rw [hl]
    rcases cross_mem hs with ⟨k, hk, rfl⟩ | rfl
    · refine ⟨.inr rfl, fun a ha => ?_⟩
      simp [crossS] at ha; subst ha
      have h1 := getD_b hx k; have h2 := getD_b hy k
      simp only [List.getD_eq_getElem?_getD] at h1 h2
      exact ⟨h1.1, h1.2.1, h2.1, h2.2.1, by simp, by simp, by simp; omega, by simp; omega⟩
    · exact ⟨.inl ⟨by simp, by simp⟩, fun a ha => by cases ha⟩
theorem cross_little (hn : crossN x y ≤ 5) : Little (crossM x y) 6 1 := by
  refine ⟨by rw [cross_len]; omega, fun s hs a ha => ?_, fun s hs hne => ?_, fun s hs => ?_⟩ <;> rcases cross_mem hs with ⟨k, _, rfl⟩ | rfl
  · simp [crossS] at ha; subst ha; simp
  · cases ha
  · exact absurd rfl hne
  · simp
  · simp [crossS]
  · simp
theorem arcsP_cross {p : Pl} {a : ArcL} (h : a ∈ arcsP (crossM x y) p) : p.1 < crossN x y ∧ a = ⟨x.getD p.1 0, y.getD p.1 0, 0, p.1 + 1⟩ := by
  unfold arcsP at h
  by_cases hp : p.1 < crossN x y
  · rw [cross_get x y _ hp] at h
    simp [crossS] at h
    exact ⟨hp, by rw [h]; simp⟩
  · by_cases e : p.1 = crossN x y
    · rw [e, cross_last] at h; simp at h
    · rw [List.getElem?_eq_none (by rw [cross_len]; omega)] at h; simp at h
theorem step_cross {x u : List Int} (hx : ∀ a ∈ x, 1 ≤ a ∧ a ≤ 1000) {k : Nat} (hp : u.take (min k x.length) = x.take (min k x.length)) (h : stepOk u (min k x.length) (x.getD k 0) = true) :
    stepAt (min k x.length) (x.getD k 0) = min (k + 1) x.length ∧ u.take (min (k + 1) x.length) = x.take (min (k + 1) x.length) := by
  have hb := getD_b hx k
  unfold stepOk stepAt at *
  by_cases hk : k < x.length
  · rw [if_neg (by omega)] at h ⊢
    simp only [hitB, decide_eq_true_eq] at h
    rw [Nat.min_eq_left (by omega)] at h hp ⊢
    rw [Nat.min_eq_left (by omega)]
    refine ⟨rfl, ?_⟩
    have hu := (List.getElem?_eq_some_iff.1 h)
    obtain ⟨hu1, hu2⟩ := hu
    rw [List.take_succ_eq_append_getElem hu1, List.take_succ_eq_append_getElem hk, hp, hu2]
    simp [hk]
  · rw [if_pos (by omega)]
    rw [Nat.min_eq_right (by omega)] at hp ⊢
    rw [Nat.min_eq_right (by omega)]
    exact ⟨rfl, hp⟩
theorem cross_rw {u v : List Int} (hx : ∀ a ∈ x, 1 ≤ a ∧ a ≤ 1000) (hy : ∀ a ∈ y, 1 ≤ a ∧ a ≤ 1000) {p : Pl} {c : Int} (h : RW (crossM x y) u v false p c) :
    c = 0 ∧ p.1 ≤ crossN x y ∧ p.2.1 = min p.1 x.length ∧ p.2.2 = min p.1 y.length ∧ u.take (min p.1 x.length) = x.take (min p.1 x.length) ∧ v.take (min p.1 y.length) = y.take (min p.1 y.length) := by
  induction h with
  | start h0 => simp [crossM]
  | @step p c a q _ ha hn ih =>
    obtain ⟨rfl, h1, h2, h3, h4, h5⟩ := ih
    obtain ⟨hk, rfl⟩ := arcsP_cross ha
    unfold nextP at hn
    simp only [Bool.false_or, Bool.false_eq_true, if_false] at hn
    split at hn
    · rename_i hh
      simp only [Bool.and_eq_true] at hh
      rw [h2, h3] at hh
      cases hn
      have e1 : ((p.1 : Int) + 1).toNat = p.1 + 1 := by omega
      have k1 := step_cross hx h4 hh.1
      have k2 := step_cross hy h5 hh.2
      simp only [e1, h2, h3]
      exact ⟨rfl, by omega, k1.1, k2.1, k1.2, k2.2⟩
    · cases hn
theorem step_self {x : List Int} (hx : ∀ a ∈ x, 1 ≤ a ∧ a ≤ 1000) (k : Nat) : stepOk x (min k x.length) (x.getD k 0) = true ∧ stepAt (min k x.length) (x.getD k 0) = min (k + 1) x.length := by
  have hb := getD_b hx k
  unfold stepOk stepAt
  by_cases hk : k < x.length
  · rw [if_neg (by omega), if_neg (by omega), Nat.min_eq_left (by omega), Nat.min_eq_left (by omega)]
    refine ⟨?_, rfl⟩
    simp [hitB, hk]
  · rw [if_pos (by omega), if_pos (by omega), Nat.min_eq_right (by omega), Nat.min_eq_right (by omega)]
    exact ⟨rfl, rfl⟩
theorem cross_way (hx : ∀ a ∈ x, 1 ≤ a ∧ a ≤ 1000) (hy : ∀ a ∈ y, 1 ≤ a ∧ a ≤ 1000) (k : Nat) (hk : k ≤ crossN x y) : RW (crossM x y) x y false (k, min k x.length, min k y.length) 0 := by
  induction k with
  | zero =>
    have := RW.start (m := crossM x y) (x := x) (y := y) (any := false) (by simp [crossM])
    simpa [crossM] using this
  | succ k ih =>
    have ih := ih (by omega)
    have ha : (⟨x.getD k 0, y.getD k 0, 0, k + 1⟩ : ArcL) ∈ arcsP (crossM x y) (k, min k x.length, min k y.length) := by
      unfold arcsP; rw [cross_get x y k (by omega)]; simp [crossS]
    have h1 := step_self hx k; have h2 := step_self hy k
    have e1 : ((k : Int) + 1).toNat = k + 1 := by omega
    have := ih.step (q := (k + 1, min (k + 1) x.length, min (k + 1) y.length)) ha (by
      unfold nextP
      simp only [Bool.false_or, Bool.false_eq_true, if_false]
      rw [h1.1, h2.1, h1.2, h2.2, e1]; rfl)
    simpa using this
theorem cross_tot (hx : ∀ a ∈ x, 1 ≤ a ∧ a ≤ 1000) (hy : ∀ a ∈ y, 1 ≤ a ∧ a ≤ 1000) (u v : List Int) (c : Int) : Tot (crossM x y) u v false c ↔ x = u ∧ y = v ∧ c = 0 := by
  have hfin : ∀ p : Pl, finalP (crossM x y) p ≠ INF → p.1 = crossN x y ∧ finalP (crossM x y) p = 0 := by
    intro p hne
    unfold finalP at *
    by_cases hp : p.1 < crossN x y
    · rw [cross_get x y _ hp] at hne; exact absurd rfl hne
    · by_cases e : p.1 = crossN x y
      · rw [e, cross_last]; exact ⟨rfl, rfl⟩
      · rw [List.getElem?_eq_none (by rw [cross_len]; omega)] at hne; exact absurd rfl hne
  constructor
  · rintro ⟨p, d, hr, he, hf, rfl⟩
    obtain ⟨hp, hf0⟩ := hfin p hf
    obtain ⟨rfl, h1, h2, h3, h4, h5⟩ := cross_rw hx hy hr
    unfold endsP at he
    simp only [Bool.false_or, Bool.and_eq_true, beq_iff_eq] at he
    have a1 : min p.1 x.length = x.length := by rw [hp]; unfold crossN; omega
    have a2 : min p.1 y.length = y.length := by rw [hp]; unfold crossN; omega
    rw [a1] at h2 h4; rw [a2] at h3 h5
    rw [List.take_length, List.take_of_length_le (by omega)] at h4 h5
    exact ⟨h4.symm, h5.symm, by omega⟩
  · rintro ⟨rfl, rfl, rfl⟩
    have hw := cross_way hx hy (crossN x y) (Nat.le_refl _)
    have a1 : min (crossN x y) x.length = x.length := by unfold crossN; omega
    have a2 : min (crossN x y) y.length = y.length := by unfold crossN; omega
    have hf : finalP (crossM x y) (crossN x y, x.length, y.length) = 0 := by unfold finalP; simp only; rw [cross_last]; rfl
    rw [a1, a2] at hw
    exact ⟨_, 0, hw, by simp [endsP], by rw [hf]; decide, by rw [hf]; rfl⟩
end
end Go.Proofs.Ytikkmoleneioeaa
