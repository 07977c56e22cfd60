/- weigh.Line; Compose of the machine without states; the ways of a machine and the words on them. -/
/- The walk of ComposeLines. -/
import Derived.Test.YtfikkpgigicepaaCompUse
import Derived.Test.YtfikkpgigicepaaCrossCost
import Derived.Test.YtfikkpgigicepaaCross
import Derived.Test.YtfikkpgigicepaaLeast
namespace Go.Proofs.Ytfikkpgigicepaa
open Go.RowKit

theorem way_accW {m : MachL} (hv : Valid m) {q : Nat} {c : Int} (h : Way (endsFirst m) (endsE m) q c) : ∃ u v, AccW m q u v c := by
  induction h with
  | @start q hq hw =>
    have hq' : q < m.states.length := by simpa [endsFirst] using hq
    refine ⟨[], [], ?_⟩
    have e : (endsFirst m)[q] = m.states[q].final := by simp [endsFirst, gE]
    rw [e] at hw ⊢
    exact AccW.fin (List.getElem?_eq_getElem hq') hw
  | @step p q c' w h he ih =>
    obtain ⟨u, v, ih⟩ := ih
    obtain ⟨p', hp, a, ha, e⟩ := (Ends_mem hv _ _).1 he
    unfold fE at e
    injection e with e1 e2
    injection e2 with e2 e3
    subst e1; subst e2; subst e3
    have g := AccW.arc (List.getElem?_eq_getElem hp) ha ih
    rw [Int.add_comm] at g
    exact ⟨_, _, g⟩
theorem accW_way {m : MachL} (hv : Valid m) {q : Nat} {u v : List Int} {c : Int} (h : AccW m q u v c) : Way (endsFirst m) (endsE m) q c := by
  induction h with
  | @fin q s hs hf =>
    obtain ⟨hl, rfl⟩ := List.getElem?_eq_some_iff.1 hs
    exact ends_start hl hf
  | @arc q s a x y c hs ha _ ih =>
    obtain ⟨hl, rfl⟩ := List.getElem?_eq_some_iff.1 hs
    have := ends_step hv (hp := hl) ha ih
    rw [Int.add_comm] at this
    exact this
theorem wt_small {m : MachL} {W : Int} (h : Wt m W) (hle : W ≤ 1000000) : Small m := fun s hs => by
  refine ⟨?_, fun a ha => by have := h.w s hs a ha; omega⟩
  by_cases hf : s.final = INF
  · exact .inl hf
  · right; have := h.f s hs hf; omega
/-- the cheapest way of a machine that has but one word of each kind -/
theorem lines_eq {m c d : MachL} {x y : List Int} (hx : ∀ a ∈ x, 1 ≤ a ∧ a ≤ 1000) (hy : ∀ a ∈ y, 1 ≤ a ∧ a ≤ 1000) (hvd : Valid d) (hd0 : d.start = 0) (hc : ∀ u v e, Tot c u v false e ↔ Comp (crossM x x) m u v e) (hd : ∀ u v e, Tot d u v false e ↔ Comp c (crossM y y) u v e) {D r : Int}
    (hD : IsDist (endsFirst d) (endsE d) 0 D) (hr : Best (Tot m x y false) r) : D = r := by
  have key : ∀ e, Way (endsFirst d) (endsE d) 0 e ↔ Tot m x y false e := fun e => by
    constructor
    · intro h
      obtain ⟨u, v, h1⟩ := way_accW hvd h
      have h2 : Tot d u v false e := tot_accW.2 ⟨by omega, by rw [hd0]; exact h1⟩
      obtain ⟨y', d1, d2, g1, g2, rfl⟩ := (hd u v e).1 h2
      obtain ⟨rfl, rfl, rfl⟩ := (cross_tot hy hy y' v d2).1 g2
      obtain ⟨x', e1, e2, k1, k2, rfl⟩ := (hc u y d1).1 g1
      obtain ⟨rfl, rfl, rfl⟩ := (cross_tot hx hx u x' e1).1 k1
      rw [Int.zero_add, Int.add_zero]
      exact k2
    · intro h
      have h1 : Tot c x y false e := (hc x y e).2 ⟨x, 0, e, (cross_tot hx hx x x 0).2 ⟨rfl, rfl, rfl⟩, h, by omega⟩
      have h2 : Tot d x y false e := (hd x y e).2 ⟨y, e, 0, h1, (cross_tot hy hy y y 0).2 ⟨rfl, rfl, rfl⟩, by omega⟩
      have h3 := (tot_accW.1 h2).2
      rw [hd0] at h3
      exact accW_way hvd h3
  have hi : INF = 1000000001 := rfl
  rcases hD with ⟨h1, h2⟩ | ⟨h1, h2, h3, h4⟩
  · rcases hr with ⟨g1, g2⟩ | ⟨g1, g2, g3⟩
    · omega
    · exact absurd ((key r).2 g1) (h2 r)
  · rcases hr with ⟨g1, g2⟩ | ⟨g1, g2, g3⟩
    · exact absurd ((key D).1 h3) (g2 D)
    · have := h4 r ((key r).2 g1); have := g2 D ((key D).1 h3); omega

set_option maxRecDepth 100000 in
set_option maxHeartbeats 4000000 in
theorem Line_any (A1 : Option Addr) (c1 : Nat) (x : List Int) (w : World) (hx : Rd w A1 x.length 1 (icells x)) (hlx : x.length ≤ 12) (hbx : ∀ a ∈ x, 1 ≤ a ∧ a ≤ 1000) :
    Calls Try.prog 29 #[.slice A1 x.length c1] w fun e w' => ∃ mv, e = .returned (.tuple #[mv, .int .i64 0]) ∧ OwnMach w' w.heap.size mv (crossM x x) ∧ Below w.heap.size w w' := by
  have CR := Lib.hid (fun W (hb : Below w.heap.size w W) => Cross_any A1 A1 c1 c1 x x W (hx.below hb rfl) (hx.below hb rfl) hlx hlx hbx hbx)
  clear hx hbx
  go_enter Try.func29, Try.ntmps29
  go_wp2_with fail
  refine (CR.out _ (by repeat' (first | exact Below.refl _ _ | assumption | refine Below.drew ?_ | refine Below.alloc ?_ (by first | omega | (simp; done) | (simp; omega)) _ | refine Below.setCell ?_ (by first | omega | (simp; done) | (simp; omega)) _))).mono ?_
  rintro e w1 ⟨mv, rfl, ho, r1⟩
  have hs := ho
  obtain ⟨sv, rfl, hO⟩ := ho
  obtain ⟨A, c, rfl, -, -⟩ := hO.form
  have B1 : Blk w1 w.heap.size #[.int .i64 0, .slice none 0 0] 28 := Blk.step (Blk.new _ _ _) r1
  have b1 : Below w.heap.size w w1 := ((by repeat' (first | exact Below.refl _ _ | assumption | refine Below.drew ?_ | refine Below.alloc ?_ (by first | omega | (simp; done) | (simp; omega)) _ | refine Below.setCell ?_ (by first | omega | (simp; done) | (simp; omega)) _)) : Below w.heap.size w _).trans (r1.mono (by simp))
  have k1 := B1.cell; have f1 := B1.froz; have l1 := B1.lt
  have HO := Lib.hid hO; have HB1 := Lib.hid B1
  have hst : (crossM x x).start = 0 := rfl
  rw [hst]
  clear hs hO r1 B1 CR
  go_wp2_with fail
  have Z := ((HB1.out.put 0 (.int .i64 0)).put 1 (.slice A (crossM x x).states.length c)).eq (show _ = #[.int .i64 0, .slice A (crossM x x).states.length c] by simp)
  have bz : Below w.heap.size w ((w1.setCell ⟨w.heap.size, 0, none⟩ (.int .i64 0)).setCell ⟨w.heap.size, 1, none⟩ (.slice A (crossM x x).states.length c)) := (b1.setCell (p := ⟨w.heap.size, 0, none⟩) (Nat.le_refl _) _).setCell (p := ⟨w.heap.size, 1, none⟩) (Nat.le_refl _) _
  have hO2 : OwnSt ((w1.setCell ⟨w.heap.size, 0, none⟩ (.int .i64 0)).setCell ⟨w.heap.size, 1, none⟩ (.slice A (crossM x x).states.length c)) w.heap.size (.slice A (crossM x x).states.length c) (crossM x x).states := by
    obtain ⟨vs, hv⟩ := HO.out
    have hv2 := hv.setCell (a := ⟨w.heap.size, 0, none⟩) (by simp) (.int .i64 0)
    have hv3 := hv2.setCell (a := ⟨w.heap.size, 1, none⟩) (by simp) (.slice A (crossM x x).states.length c)
    exact ⟨vs, hv3.mono (by simp)⟩
  have HO2 := Lib.hid hO2
  clear k1 f1 l1 hO2
  generalize (w1.setCell ⟨w.heap.size, 0, none⟩ (.int .i64 0)).setCell ⟨w.heap.size, 1, none⟩ (.slice A (crossM x x).states.length c) = W' at *
  have kz := Z.cell; have lz := Z.lt
  refine bodyPost_ret (v := .tuple #[.agg #[.int .i64 0, .slice A (crossM x x).states.length c], .int .i64 0]) (by simp [results, Try.results29, go_sem, *]) rfl ⟨_, rfl, ⟨_, rfl, HO2.out⟩, bz⟩

set_option maxRecDepth 100000 in
set_option maxHeartbeats 4000000 in
theorem Check_zero (w : World) : Calls Try.prog 55 #[.agg #[.int .i64 0, .slice none 0 0]] w fun e w' => e = .returned (.int .i64 2) ∧ Below w.heap.size w w' := by
  go_enter Try.func55, Try.ntmps55
  go_wp2_with fail
  have Z0 : Blk ((w.alloc (.cells #[.int .i64 0, .slice none 0 0] 28)).alloc (.cells #[.int .i64 0] 3)) w.heap.size #[.int .i64 0, .slice none 0 0] 28 := (Blk.new _ _ _).alloc _
  have Z1 : Blk ((w.alloc (.cells #[.int .i64 0, .slice none 0 0] 28)).alloc (.cells #[.int .i64 0] 3)) (w.heap.size + 1) #[.int .i64 0] 3 := Blk.new' (by simp)
  have b0 : Below w.heap.size w ((w.alloc (.cells #[.int .i64 0, .slice none 0 0] 28)).alloc (.cells #[.int .i64 0] 3)) := (by repeat' (first | exact Below.refl _ _ | assumption | refine Below.drew ?_ | refine Below.alloc ?_ (by first | omega | (simp; done) | (simp; omega)) _ | refine Below.setCell ?_ (by first | omega | (simp; done) | (simp; omega)) _))
  generalize (w.alloc (.cells #[.int .i64 0, .slice none 0 0] 28)).alloc (.cells #[.int .i64 0] 3) = w1 at *
  have k0 := Z0.cell; have k1 := Z1.cell; have l0 := Z0.lt; have l1 := Z1.lt
  go_loopw [4, 17] (fun arcs i wr => i = .int .i64 0 ∧ arcs = .int .i64 0 ∧ wr = w1) (fun _ _ _ => 0)
  case atStart => exact ⟨rfl, rfl, rfl⟩
  case round =>
    obtain ⟨rfl, rfl, rfl⟩ := hrel
    go_wp2_with fail
    go_ret
    exact ⟨rfl, b0⟩
set_option maxRecDepth 100000 in
set_option maxHeartbeats 4000000 in
theorem both_zero (v2 : Value) (w : World) (A : Option Addr) (n c : Nat) (st : Int) (hv : v2 = .agg #[.int .i64 st, .slice A n c]) : Calls Try.prog 38 #[.agg #[.int .i64 0, .slice none 0 0], v2] w fun e w' => e = .returned (.int .i64 2) ∧ Below w.heap.size w w' := by
  subst hv
  go_enter Try.func38, Try.ntmps38
  go_wp2_with fail
  refine (Check_zero _).mono ?_; rintro e w1 ⟨rfl, r1⟩
  have b1 : Below w.heap.size w w1 := ((by repeat' (first | exact Below.refl _ _ | assumption | refine Below.drew ?_ | refine Below.alloc ?_ (by first | omega | (simp; done) | (simp; omega)) _ | refine Below.setCell ?_ (by first | omega | (simp; done) | (simp; omega)) _)) : Below w.heap.size w _).trans (r1.mono (by simp; omega))
  go_wp2_with fail
  go_ret
  exact ⟨rfl, b1⟩
set_option maxRecDepth 100000 in
set_option maxHeartbeats 4000000 in
theorem Compose_zero (v2 : Value) (w : World) (A : Option Addr) (n c : Nat) (st : Int) (hv : v2 = .agg #[.int .i64 st, .slice A n c]) : Calls Try.prog 16 #[.agg #[.int .i64 0, .slice none 0 0], v2] w fun e w' => e = .returned (.tuple #[.agg #[.int .i64 0, .slice none 0 0], .int .i64 2]) ∧ Below w.heap.size w w' := by
  subst hv
  go_enter Try.func16, Try.ntmps16
  go_wp2_with fail
  refine (both_zero _ _ A n c st rfl).mono ?_; rintro e w1 ⟨rfl, r1⟩
  have b1 : Below w.heap.size w w1 := ((by repeat' (first | exact Below.refl _ _ | assumption | refine Below.drew ?_ | refine Below.alloc ?_ (by first | omega | (simp; done) | (simp; omega)) _ | refine Below.setCell ?_ (by first | omega | (simp; done) | (simp; omega)) _)) : Below w.heap.size w _).trans (r1.mono (by simp; omega))
  have Z2 : Blk w1 (w.heap.size + 2) #[.int .i64 0, .slice none 0 0] 28 := Blk.step (Blk.new' (by simp)) r1
  have k2 := Z2.cell; have f2 := Z2.froz; have l2 := Z2.lt
  clear r1
  go_wp2_with fail
  have Z := ((Z2.put 0 (.int .i64 0)).put 1 (.slice none 0 0)).eq (show _ = #[.int .i64 0, .slice none 0 0] by simp)
  have bz : Below w.heap.size w ((w1.setCell ⟨w.heap.size + 2, 0, none⟩ (.int .i64 0)).setCell ⟨w.heap.size + 2, 1, none⟩ (.slice none 0 0)) := (b1.setCell (p := ⟨w.heap.size + 2, 0, none⟩) (Nat.le_add_right _ _) _).setCell (p := ⟨w.heap.size + 2, 1, none⟩) (Nat.le_add_right _ _) _
  clear k2 f2 l2 Z2
  generalize (w1.setCell ⟨w.heap.size + 2, 0, none⟩ (.int .i64 0)).setCell ⟨w.heap.size + 2, 1, none⟩ (.slice none 0 0) = W' at *
  have kz := Z.cell; have lz := Z.lt
  refine bodyPost_ret (v := .tuple #[.agg #[.int .i64 0, .slice none 0 0], .int .i64 2]) (by simp [results, Try.results16, go_sem, *]) rfl ⟨rfl, bz⟩
end Go.Proofs.Ytfikkpgigicepaa

namespace Go.Proofs.Ytfikkpgigicepaa
open Go.RowKit

namespace composeLines
set_option maxRecDepth 100000 in
set_option maxHeartbeats 8000000 in
theorem walk {w : World} (v1 : Value) (r1 : RawL) (hr1 : RawArg w v1 r1) (A1 : Option Addr) (n1 k1 : Nat) (xs : List Int) (hx : IntArg w A1 n1 xs) (A2 : Option Addr) (n2 k2 : Nat) (ys : List Int) (hy : IntArg w A2 n2 ys) :
    Calls Try.prog 10 #[v1, .slice A1 n1 k1, .slice A2 n2 k2] w fun e w' => e = .returned (.bool true) ∧ Below w.heap.size w w' := by
  have hma : Valid (mkMach r1 4 false) := valid_made r1 4 false (by omega) (by omega)
  have hla := made_little r1 4 false (by omega)
  have ha0 : 0 ≤ (mkMach r1 4 false).start := pick_lo _ _ (by unfold mkN; omega)
  have HM1 := Lib.hid (fun W hb => made_any v1 r1 4 false W (hr1.below hb) (by omega) (by omega))
  have HWX := Lib.hid (fun W hb => word_any A1 n1 k1 xs 3 W (hx.below hb) (by omega))
  have HWY := Lib.hid (fun W hb => word_any A2 n2 k2 ys 3 W (hy.below hb) (by omega))
  have lx := mkWord_len xs 3; have ly := mkWord_len ys 3
  have BX := Lib.hid (word_b xs 3); have BY := Lib.hid (word_b ys 3)
  obtain ⟨-, -, A, c, rfl, -⟩ := hr1
  generalize mkMach r1 4 false = a at *
  generalize mkWord xs 3 = x at *
  generalize mkWord ys 3 = y at *
  have hnx : crossN x x ≤ 5 := by unfold crossN; omega
  have hny : crossN y y ≤ 5 := by unfold crossN; omega
  have hvx : Valid (crossM x x) := cross_valid BX.out BX.out (by omega)
  have hvy : Valid (crossM y y) := cross_valid BY.out BY.out (by omega)
  have hwx := (cross_little hnx).wt9; have hwy := (cross_little hny).wt9
  have HVA := Lib.hid hma
  have HCA := Lib.hid (hla.ok 3 3 lx ly (by omega))
  have HC1 := Lib.hid (fun va vb W h1 h2 => compose_use va vb (crossM x x) a 9 9 W h1 h2 hvx hma (Int.le_refl 0) ha0 hwx hla.wt9 (by omega))
  have HC2 := Lib.hid (fun va vb W c (hv : Valid c) (h0 : 0 ≤ c.start) (hw : Wt c (9 + 9)) h1 h2 => compose_use va vb c (crossM y y) (9 + 9) 9 W h1 h2 hv hvy h0 (Int.le_refl 0) hw hwy (by omega))
  have HEQ := Lib.hid (fun c d D r h1 h2 h3 h4 h5 h6 => lines_eq (m := a) (c := c) (d := d) (x := x) (y := y) (D := D) (r := r) BX.out BY.out h1 h2 h3 h4 h5 h6)
  have HSX : Hid ((crossM x x).start = 0) := Lib.hid rfl
  have HSY : Hid ((crossM y y).start = 0) := Lib.hid rfl
  clear hma hla hx hy ha0 hnx hny hvx hvy hwx hwy
  have LX := Lib.hid (fun A c W h => Line_any A c x W h (by omega) BX.out)
  have LY := Lib.hid (fun A c W h => Line_any A c y W h (by omega) BY.out)
  generalize crossM x x = px at *
  generalize crossM y y = py at *
  go_enter Try.func10, Try.ntmps10
  go_upto_region 1 with fail
  have R1 : Hid (Blk (w.alloc (.cells #[.int .i64 r1.start, .slice A r1.nodes.length c] 24)) (w.heap.size) #[.int .i64 r1.start, .slice A r1.nodes.length c] 24) := Lib.hid (Blk.new' (by simp))
  have b0 : Below w.heap.size w (w.alloc (.cells #[.int .i64 r1.start, .slice A r1.nodes.length c] 24)) := (by repeat' (first | exact Below.refl _ _ | assumption | refine Below.drew ?_ | refine Below.alloc ?_ (by first | omega | (simp; done) | (simp; omega)) _ | refine Below.setCell ?_ (by first | omega | (simp; done) | (simp; omega)) _))
  generalize (w.alloc (.cells #[.int .i64 r1.start, .slice A r1.nodes.length c] 24)) = w0 at *
  have k_R1 := R1.out.cell; have l_R1 := R1.out.lt
  go_wp2_with fail
  clear k_R1 l_R1
  refine (HM1.out _ b0).mono ?_; rintro e w1 ⟨mv1, rfl, o1, q1⟩
  have b1 : Below w.heap.size w w1 := b0.trans (q1.mono b0.size)
  replace R1 := Lib.hid (R1.out.step q1)
  obtain ⟨A3, c3, rfl, s1⟩ := own_open o1
  have X1 := Lib.hid (MBox.new (c := c3) s1)
  clear o1 s1
  go_upto_region 2 with fail
  have b1a := b1.alloc b1.size (.cells #[.int .i64 a.start, .slice A3 a.states.length c3] 28)
  generalize w1.alloc (.cells #[.int .i64 a.start, .slice A3 a.states.length c3] 28) = w1a at *
  generalize w1.heap.size = ba at *
  go_wp2_with fail
  refine (HWX.out _ b1a).mono ?_; rintro e w2 ⟨xv, rfl, ox, q2⟩
  have b2 : Below w.heap.size w w2 := b1a.trans (q2.mono b1a.size)
  replace X1 := Lib.hid (X1.out.step q2)
  obtain ⟨AX, cX, rfl, rx⟩ := word_open ox
  have RX := Lib.hid rx
  clear ox rx
  go_wp2_with fail
  refine (HWY.out _ b2).mono ?_; rintro e w3 ⟨xv, rfl, ox, q3⟩
  have b3 : Below w.heap.size w w3 := b2.trans (q3.mono b2.size)
  replace X1 := Lib.hid (X1.out.step q3)
  replace RX := Lib.hid (RX.out.below q3 rfl)
  obtain ⟨AY, cY, rfl, rx⟩ := word_open ox
  have RY := Lib.hid rx
  clear ox rx
  go_wp2_with fail
  refine (LX.out AX cX _ RX.out).mono ?_; rintro e w4 ⟨mvx, rfl, ox, q4⟩
  have b4 : Below w.heap.size w w4 := b3.trans (q4.mono b3.size)
  replace X1 := Lib.hid (X1.out.step q4)
  replace RX := Lib.hid (RX.out.below q4 rfl)
  replace RY := Lib.hid (RY.out.below q4 rfl)
  obtain ⟨A4, c4, rfl, sx⟩ := own_open ox
  have X2 := Lib.hid (MBox.new (c := c4) sx)
  clear ox sx
  go_upto_region 5 with fail
  replace X1 := Lib.hid (X1.out.alloc (.cells #[.int .i64 px.start, .slice A4 px.states.length c4] 28))
  replace RX := Lib.hid (RX.out.below (show Below w4.heap.size w4 (w4.alloc (.cells #[.int .i64 px.start, .slice A4 px.states.length c4] 28)) from (Below.refl _ _).alloc (Nat.le_refl _) _) rfl)
  replace RY := Lib.hid (RY.out.below (show Below w4.heap.size w4 (w4.alloc (.cells #[.int .i64 px.start, .slice A4 px.states.length c4] 28)) from (Below.refl _ _).alloc (Nat.le_refl _) _) rfl)
  have b4a := b4.alloc b4.size (.cells #[.int .i64 px.start, .slice A4 px.states.length c4] 28)
  generalize w4.alloc (.cells #[.int .i64 px.start, .slice A4 px.states.length c4] 28) = w4a at *
  generalize w4.heap.size = b4x at *
  go_wp2_with fail
  refine (LY.out AY cY _ RY.out).mono ?_; rintro e w5 ⟨mvx, rfl, ox, q5⟩
  have b5 : Below w.heap.size w w5 := b4a.trans (q5.mono b4a.size)
  replace X1 := Lib.hid (X1.out.step q5)
  replace RX := Lib.hid (RX.out.below q5 rfl)
  replace RY := Lib.hid (RY.out.below q5 rfl)
  replace X2 := Lib.hid (X2.out.step q5)
  obtain ⟨A5, c5, rfl, sx⟩ := own_open ox
  have X3 := Lib.hid (MBox.new (c := c5) sx)
  clear ox sx
  go_upto_region 6 with fail
  replace X1 := Lib.hid (X1.out.alloc (.cells #[.int .i64 py.start, .slice A5 py.states.length c5] 28))
  replace RX := Lib.hid (RX.out.below (show Below w5.heap.size w5 (w5.alloc (.cells #[.int .i64 py.start, .slice A5 py.states.length c5] 28)) from (Below.refl _ _).alloc (Nat.le_refl _) _) rfl)
  replace RY := Lib.hid (RY.out.below (show Below w5.heap.size w5 (w5.alloc (.cells #[.int .i64 py.start, .slice A5 py.states.length c5] 28)) from (Below.refl _ _).alloc (Nat.le_refl _) _) rfl)
  replace X2 := Lib.hid (X2.out.alloc (.cells #[.int .i64 py.start, .slice A5 py.states.length c5] 28))
  have b5a := b5.alloc b5.size (.cells #[.int .i64 py.start, .slice A5 py.states.length c5] 28)
  generalize w5.alloc (.cells #[.int .i64 py.start, .slice A5 py.states.length c5] 28) = w5a at *
  generalize w5.heap.size = b5x at *
  have k_X2 := X2.out.blk.cell; have l_X2 := X2.out.blk.lt
  have k_X1 := X1.out.blk.cell; have l_X1 := X1.out.blk.lt
  go_wp2_with fail
  clear k_X2 l_X2 k_X1 l_X1
  refine (HC1.out _ _ _ X2.out.mach X1.out.mach).mono ?_; rintro e w6 ⟨⟨C1, kk1, m1, er1, rfl, hco⟩, q6⟩
  have b6 : Below w.heap.size w w6 := b5a.trans (q6.mono b5a.size)
  replace X1 := Lib.hid (X1.out.step q6)
  replace RX := Lib.hid (RX.out.below q6 rfl)
  replace RY := Lib.hid (RY.out.below q6 rfl)
  replace X2 := Lib.hid (X2.out.step q6)
  replace X3 := Lib.hid (X3.out.step q6)
  have Y1 := Lib.hid (Blk.new w6 #[.int .i64 0, .slice C1 m1 kk1] 28)
  have E1 := Lib.hid (hco.alloc (.cells #[.int .i64 0, .slice C1 m1 kk1] 28))
  clear hco
  go_upto_region 7 with fail
  replace X1 := Lib.hid (X1.out.alloc (.cells #[.int .i64 0, .slice C1 m1 kk1] 28))
  replace RX := Lib.hid (RX.out.below (show Below w6.heap.size w6 (w6.alloc (.cells #[.int .i64 0, .slice C1 m1 kk1] 28)) from (Below.refl _ _).alloc (Nat.le_refl _) _) rfl)
  replace RY := Lib.hid (RY.out.below (show Below w6.heap.size w6 (w6.alloc (.cells #[.int .i64 0, .slice C1 m1 kk1] 28)) from (Below.refl _ _).alloc (Nat.le_refl _) _) rfl)
  replace X2 := Lib.hid (X2.out.alloc (.cells #[.int .i64 0, .slice C1 m1 kk1] 28))
  replace X3 := Lib.hid (X3.out.alloc (.cells #[.int .i64 0, .slice C1 m1 kk1] 28))
  have b6a := b6.alloc b6.size (.cells #[.int .i64 0, .slice C1 m1 kk1] 28)
  generalize w6.alloc (.cells #[.int .i64 0, .slice C1 m1 kk1] 28) = w6a at *
  generalize w6.heap.size = y1 at *
  rcases E1.out.full with ⟨rfl, rfl, rfl, rfl⟩ | ⟨rfl, f1, hf1⟩
  · have k_Y1 := Y1.out.cell; have l_Y1 := Y1.out.lt; have k_X3 := X3.out.blk.cell; have l_X3 := X3.out.blk.lt
    go_wp2_with fail
    clear k_Y1 l_Y1 k_X3 l_X3
    refine (Compose_zero _ _ A5 py.states.length c5 py.start rfl).mono ?_; rintro e wz ⟨rfl, qz⟩
    have bz : Below w.heap.size w wz := b6a.trans (qz.mono b6a.size)
    go_wp2_with fail
    go_ret
    exact ⟨rfl, bz.alloc bz.size _⟩
  have H1 := Lib.hid hf1
  clear hf1 E1
  have k_Y1 := Y1.out.cell; have l_Y1 := Y1.out.lt
  have k_X3 := X3.out.blk.cell; have l_X3 := X3.out.blk.lt
  go_wp2_with fail
  clear k_Y1 l_Y1 k_X3 l_X3
  refine (HC2.out _ _ _ f1 H1.out.v (by rw [H1.out.st]; exact Int.le_refl _) H1.out.w H1.out.mach X3.out.mach).mono ?_; rintro e w7 ⟨⟨C2, kk2, m2, er2, rfl, hco⟩, q7⟩
  have b7 : Below w.heap.size w w7 := b6a.trans (q7.mono b6a.size)
  replace X1 := Lib.hid (X1.out.step q7)
  replace RX := Lib.hid (RX.out.below q7 rfl)
  replace RY := Lib.hid (RY.out.below q7 rfl)
  replace X3 := Lib.hid (X3.out.step q7)
  replace Y1 := Lib.hid (Y1.out.step q7)
  replace H1 := Lib.hid (H1.out.step q7)
  have Y2 := Lib.hid (Blk.new w7 #[.int .i64 0, .slice C2 m2 kk2] 28)
  have E2 := Lib.hid (hco.alloc (.cells #[.int .i64 0, .slice C2 m2 kk2] 28))
  clear hco
  go_upto_region 8 with fail
  replace X1 := Lib.hid (X1.out.alloc (.cells #[.int .i64 0, .slice C2 m2 kk2] 28))
  replace RX := Lib.hid (RX.out.below (show Below w7.heap.size w7 (w7.alloc (.cells #[.int .i64 0, .slice C2 m2 kk2] 28)) from (Below.refl _ _).alloc (Nat.le_refl _) _) rfl)
  replace RY := Lib.hid (RY.out.below (show Below w7.heap.size w7 (w7.alloc (.cells #[.int .i64 0, .slice C2 m2 kk2] 28)) from (Below.refl _ _).alloc (Nat.le_refl _) _) rfl)
  replace X3 := Lib.hid (X3.out.alloc (.cells #[.int .i64 0, .slice C2 m2 kk2] 28))
  replace Y1 := Lib.hid (Y1.out.alloc (.cells #[.int .i64 0, .slice C2 m2 kk2] 28))
  replace H1 := Lib.hid (H1.out.alloc (.cells #[.int .i64 0, .slice C2 m2 kk2] 28))
  have b7a := b7.alloc b7.size (.cells #[.int .i64 0, .slice C2 m2 kk2] 28)
  generalize w7.alloc (.cells #[.int .i64 0, .slice C2 m2 kk2] 28) = w7a at *
  generalize w7.heap.size = y2 at *
  rcases E2.out.full with ⟨rfl, rfl, rfl, rfl⟩ | ⟨rfl, f2, hf2⟩
  · go_wp2_with fail
    go_ret
    exact ⟨rfl, b7a⟩
  have H2 := Lib.hid hf2
  clear hf2 E2
  have hp1 : (0 : Int) < (m1 : Int) := by have := H1.out.pos; omega
  have HLE := Lib.hid (fun W h => Least_any (.agg #[.int .i64 0, .slice C2 m2 kk2]) f2 W h H2.out.v (ends_small H2.out.v (wt_small H2.out.w (by omega))) (by rw [H2.out.st]; exact Int.le_refl _))
  have k_Y2 := Y2.out.cell; have l_Y2 := Y2.out.lt
  go_wp2_with fail
  clear k_Y2 l_Y2
  refine (HLE.out _ H2.out.mach).mono ?_; rintro e w8 ⟨D, rfl, hD, q8⟩
  have b8 : Below w.heap.size w w8 := b7a.trans (q8.mono b7a.size)
  replace X1 := Lib.hid (X1.out.step q8)
  replace RX := Lib.hid (RX.out.below q8 rfl)
  replace RY := Lib.hid (RY.out.below q8 rfl)
  replace Y1 := Lib.hid (Y1.out.step q8)
  replace H1 := Lib.hid (H1.out.step q8)
  replace Y2 := Lib.hid (Y2.out.step q8)
  replace H2 := Lib.hid (H2.out.step q8)
  have hz : f2.start.toNat = 0 := by rw [H2.out.st]; rfl
  rw [hz] at hD
  have HD := Lib.hid hD
  clear hD hz HLE
  have k_X1 := X1.out.blk.cell; have l_X1 := X1.out.blk.lt
  have k_Y1 := Y1.out.cell; have l_Y1 := Y1.out.lt
  go_wp2_with fail
  clear k_X1 l_X1 k_Y1 l_Y1
  refine (cost_any _ a x y AX AY cX cY _ X1.out.mach HVA.out RX.out RY.out (by omega) (by omega) BX.out BY.out HCA.out).mono ?_; rintro e w9 ⟨v, rfl, hB, q9⟩
  have b9 : Below w.heap.size w w9 := b8.trans (q9.mono b8.size)
  replace X1 := Lib.hid (X1.out.step q9)
  replace RX := Lib.hid (RX.out.below q9 rfl)
  replace RY := Lib.hid (RY.out.below q9 rfl)
  replace Y1 := Lib.hid (Y1.out.step q9)
  replace H1 := Lib.hid (H1.out.step q9)
  replace Y2 := Lib.hid (Y2.out.step q9)
  replace H2 := Lib.hid (H2.out.step q9)
  obtain rfl : D = v := HEQ.out f1 f2 D v H2.out.v H2.out.st H1.out.tot H2.out.tot HD.out hB
  clear hB
  go_wp2_with fail
  go_ret
  exact ⟨rfl, b9⟩
end composeLines
end Go.Proofs.Ytfikkpgigicepaa
