/- weigh.Line; Compose of the machine without states; the ways of a machine and the words on them. -/
/- The walk of ComposeLines. -/
import Derived.Test.YtikkmoleneioeaaComposeBetweenWalk
import Derived.Test.YtikkmoleneioeaaCross
import Derived.Test.YtikkmoleneioeaaLeast
namespace Go.Proofs.Ytikkmoleneioeaa
open Go.RowKit

theorem way_accW {m : MachL} (hv : Valid m) {q : Nat} {c : Int} (h : Way (endsFirst m) (endsE m) q c) : ∃ u v, AccW m q u v c := by
  induction h with
  | @start q hq hw =>
    have hq' : q < m.states.length := by simpa [endsFirst] using hq
    refine ⟨[], [], ?_⟩
    have e : (endsFirst m)[q] = m.states[q].final := by simp [endsFirst, gE]
    rw [e] at hw ⊢
    exact AccW.fin (List.getElem?_eq_getElem hq') hw
  | @step p q c' w h he ih =>
    obtain ⟨u, v, ih⟩ := ih
    obtain ⟨p', hp, a, ha, e⟩ := (Ends_mem hv _ _).1 he
    unfold fE at e
    injection e with e1 e2
    injection e2 with e2 e3
    subst e1; subst e2; subst e3
    have g := AccW.arc (List.getElem?_eq_getElem hp) ha ih
    rw [Int.add_comm] at g
    exact ⟨_, _, g⟩
theorem accW_way {m : MachL} (hv : Valid m) {q : Nat} {u v : List Int} {c : Int} (h : AccW m q u v c) : Way (endsFirst m) (endsE m) q c := by
  induction h with
  | @fin q s hs hf =>
    obtain ⟨hl, rfl⟩ := List.getElem?_eq_some_iff.1 hs
    exact ends_start hl hf
  | @arc q s a x y c hs ha _ ih =>
    obtain ⟨hl, rfl⟩ := List.getElem?_eq_some_iff.1 hs
    have := ends_step hv (hp := hl) ha ih
    rw [Int.add_comm] at this
    exact this
theorem wt_small {m : MachL} {W : Int} (h : Wt m W) (hle : W ≤ 1000000) : Small m := fun s hs => by
  refine ⟨?_, fun a ha => by have := h.w s hs a ha; omega⟩
  by_cases hf : s.final = INF
  · exact .inl hf
  · right; have := h.f s hs hf; omega
/-- the cheapest way of a machine that has but one word of each kind -/
theorem lines_eq {m c d : MachL} {x y : List Int} (hx : ∀ a ∈ x, 1 ≤ a ∧ a ≤ 1000) (hy : ∀ a ∈ y, 1 ≤ a ∧ a ≤ 1000) (hvd : Valid d) (hd0 : d.start = 0) (hc : ∀ u v e, Tot c u v false e ↔ Comp (crossM x x) m u v e) (hd : ∀ u v e, Tot d u v false e ↔ Comp c (crossM y y) u v e) {D r : Int}
    (hD : IsDist (endsFirst d) (endsE d) 0 D) (hr : Best (Tot m x y false) r) : D = r := by
  have key : ∀ e, Way (endsFirst d) (endsE d) 0 e ↔ Tot m x y false e := fun e => by
    constructor
    · intro h
      obtain ⟨u, v, h1⟩ := way_accW hvd h
      have h2 : Tot d u v false e := tot_accW.2 ⟨by omega, by rw [hd0]; exact h1⟩
      obtain ⟨y', d1, d2, g1, g2, rfl⟩ := (hd u v e).1 h2
      obtain ⟨rfl, rfl, rfl⟩ := (cross_tot hy hy y' v d2).1 g2
      obtain ⟨x', e1, e2, k1, k2, rfl⟩ := (hc u y d1).1 g1
      obtain ⟨rfl, rfl, rfl⟩ := (cross_tot hx hx u x' e1).1 k1
      rw [Int.zero_add, Int.add_zero]
      exact k2
    · intro h
      have h1 : Tot c x y false e := (hc x y e).2 ⟨x, 0, e, (cross_tot hx hx x x 0).2 ⟨rfl, rfl, rfl⟩, h, by omega⟩
      have h2 : Tot d x y false e := (hd x y e).2 ⟨y, e, 0, h1, (cross_tot hy hy y y 0).2 ⟨rfl, rfl, rfl⟩, by omega⟩
      have h3 := (tot_accW.1 h2).2
      rw [hd0] at h3
      exact accW_way hvd h3
  have hi : INF = 1000000001 := rfl
  rcases hD with ⟨h1, h2⟩ | ⟨h1, h2, h3, h4⟩
  · rcases hr with ⟨g1, g2⟩ | ⟨g1, g2, g3⟩
    · omega
    · exact absurd ((key r).2 g1) (h2 r)
  · rcases hr with ⟨g1, g2⟩ | ⟨g1, g2, g3⟩
    · exact absurd ((key D).1 h3) (g2 D)
    · have := h4 r ((key r).2 g1); have := g2 D ((key D).1 h3); omega

set_option maxRecDepth 100000 in
set_option maxHeartbeats 4000000 in
theorem Line_any (A1 : Option Addr) (c1 : Nat) (x : List Int) (w : World) (hx : Rd w A1 x.length 1 (icells x)) (hlx : x.length ≤ 12) (hbx : ∀ a ∈ x, 1 ≤ a ∧ a ≤ 1000) :
    Calls Try.prog 21 #[.slice A1 x.length c1] w fun e w' => ∃ mv, e = .returned (.tuple #[mv, .int .i64 0]) ∧ OwnMach w' w.heap.size mv (crossM x x) ∧ Below w.heap.size w w' := by
  have CR := Lib.hid (fun W (hb : Below w.heap.size w W) => Cross_any A1 A1 c1 c1 x x W (hx.below hb rfl) (hx.below hb rfl) hlx hlx hbx hbx)
  clear hx hbx
  go_enter Try.func21, Try.ntmps21
  go_wp2_with fail
  refine (CR.out _ (by repeat' (first | exact Below.refl _ _ | assumption | refine Below.drew ?_ | refine Below.alloc ?_ (by first | omega | (simp; done) | (simp; omega)) _ | refine Below.setCell ?_ (by first | omega | (simp; done) | (simp; omega)) _))).mono ?_
  rintro e w1 ⟨mv, rfl, ho, r1⟩
  have hs := ho
  obtain ⟨sv, rfl, hO⟩ := ho
  obtain ⟨A, c, rfl, -, -⟩ := hO.form
  have B1 : Blk w1 w.heap.size #[.int .i64 0, .slice none 0 0] 28 := Blk.step (Blk.new _ _ _) r1
  have b1 : Below w.heap.size w w1 := ((by repeat' (first | exact Below.refl _ _ | assumption | refine Below.drew ?_ | refine Below.alloc ?_ (by first | omega | (simp; done) | (simp; omega)) _ | refine Below.setCell ?_ (by first | omega | (simp; done) | (simp; omega)) _)) : Below w.heap.size w _).trans (r1.mono (by simp))
  have k1 := B1.cell; have f1 := B1.froz; have l1 := B1.lt
  have HO := Lib.hid hO; have HB1 := Lib.hid B1
  have hst : (crossM x x).start = 0 := rfl
  rw [hst]
  clear hs hO r1 B1 CR
  go_wp2_with fail
  have Z := ((HB1.out.put 0 (.int .i64 0)).put 1 (.slice A (crossM x x).states.length c)).eq (show _ = #[.int .i64 0, .slice A (crossM x x).states.length c] by simp)
  have bz : Below w.heap.size w ((w1.setCell ⟨w.heap.size, 0, none⟩ (.int .i64 0)).setCell ⟨w.heap.size, 1, none⟩ (.slice A (crossM x x).states.length c)) := (b1.setCell (p := ⟨w.heap.size, 0, none⟩) (Nat.le_refl _) _).setCell (p := ⟨w.heap.size, 1, none⟩) (Nat.le_refl _) _
  have hO2 : OwnSt ((w1.setCell ⟨w.heap.size, 0, none⟩ (.int .i64 0)).setCell ⟨w.heap.size, 1, none⟩ (.slice A (crossM x x).states.length c)) w.heap.size (.slice A (crossM x x).states.length c) (crossM x x).states := by
    obtain ⟨vs, hv⟩ := HO.out
    have hv2 := hv.setCell (a := ⟨w.heap.size, 0, none⟩) (by simp) (.int .i64 0)
    have hv3 := hv2.setCell (a := ⟨w.heap.size, 1, none⟩) (by simp) (.slice A (crossM x x).states.length c)
    exact ⟨vs, hv3.mono (by simp)⟩
  have HO2 := Lib.hid hO2
  clear k1 f1 l1 hO2
  generalize (w1.setCell ⟨w.heap.size, 0, none⟩ (.int .i64 0)).setCell ⟨w.heap.size, 1, none⟩ (.slice A (crossM x x).states.length c) = W' at *
  have kz := Z.cell; have lz := Z.lt
  refine bodyPost_ret (v := .tuple #[.agg #[.int .i64 0, .slice A (crossM x x).states.length c], .int .i64 0]) (by simp [results, Try.results21, go_sem, *]) rfl ⟨_, rfl, ⟨_, rfl, HO2.out⟩, bz⟩

set_option maxRecDepth 100000 in
set_option maxHeartbeats 4000000 in
theorem Check_zero (w : World) : Calls Try.prog 24 #[.agg #[.int .i64 0, .slice none 0 0]] w fun e w' => e = .returned (.int .i64 2) ∧ Below w.heap.size w w' := by
  go_enter Try.func24, Try.ntmps24
  go_wp2_with fail
  have Z0 : Blk ((w.alloc (.cells #[.int .i64 0, .slice none 0 0] 28)).alloc (.cells #[.int .i64 0] 3)) w.heap.size #[.int .i64 0, .slice none 0 0] 28 := (Blk.new _ _ _).alloc _
  have Z1 : Blk ((w.alloc (.cells #[.int .i64 0, .slice none 0 0] 28)).alloc (.cells #[.int .i64 0] 3)) (w.heap.size + 1) #[.int .i64 0] 3 := Blk.new' (by simp)
  have b0 : Below w.heap.size w ((w.alloc (.cells #[.int .i64 0, .slice none 0 0] 28)).alloc (.cells #[.int .i64 0] 3)) := (by repeat' (first | exact Below.refl _ _ | assumption | refine Below.drew ?_ | refine Below.alloc ?_ (by first | omega | (simp; done) | (simp; omega)) _ | refine Below.setCell ?_ (by first | omega | (simp; done) | (simp; omega)) _))
  generalize (w.alloc (.cells #[.int .i64 0, .slice none 0 0] 28)).alloc (.cells #[.int .i64 0] 3) = w1 at *
  have k0 := Z0.cell; have k1 := Z1.cell; have l0 := Z0.lt; have l1 := Z1.lt
  go_loopw [4, 17] (fun arcs i wr => i = .int .i64 0 ∧ arcs = .int .i64 0 ∧ wr = w1) (fun _ _ _ => 0)
  case atStart => exact ⟨rfl, rfl, rfl⟩
  case round =>
    obtain ⟨rfl, rfl, rfl⟩ := hrel
    go_wp2_with fail
    go_ret
    exact ⟨rfl, b0⟩
set_option maxRecDepth 100000 in
set_option maxHeartbeats 4000000 in
theorem both_zero (v2 : Value) (w : World) (A : Option Addr) (n c : Nat) (st : Int) (hv : v2 = .agg #[.int .i64 st, .slice A n c]) : Calls Try.prog 35 #[.agg #[.int .i64 0, .slice none 0 0], v2] w fun e w' => e = .returned (.int .i64 2) ∧ Below w.heap.size w w' := by
  subst hv
  go_enter Try.func35, Try.ntmps35
  go_wp2_with fail
  refine (Check_zero _).mono ?_; rintro e w1 ⟨rfl, r1⟩
  have b1 : Below w.heap.size w w1 := ((by repeat' (first | exact Below.refl _ _ | assumption | refine Below.drew ?_ | refine Below.alloc ?_ (by first | omega | (simp; done) | (simp; omega)) _ | refine Below.setCell ?_ (by first | omega | (simp; done) | (simp; omega)) _)) : Below w.heap.size w _).trans (r1.mono (by simp; omega))
  go_wp2_with fail
  go_ret
  exact ⟨rfl, b1⟩
set_option maxRecDepth 100000 in
set_option maxHeartbeats 4000000 in
theorem Compose_zero (v2 : Value) (w : World) (A : Option Addr) (n c : Nat) (st : Int) (hv : v2 = .agg #[.int .i64 st, .slice A n c]) : Calls Try.prog 19 #[.agg #[.int .i64 0, .slice none 0 0], v2] w fun e w' => e = .returned (.tuple #[.agg #[.int .i64 0, .slice none 0 0], .int .i64 2]) ∧ Below w.heap.size w w' := by
  subst hv
  go_enter Try.func19, Try.ntmps19
  go_wp2_with fail
  refine (both_zero _ _ A n c st rfl).mono ?_; rintro e w1 ⟨rfl, r1⟩
  have b1 : Below w.heap.size w w1 := ((by repeat' (first | exact Below.refl _ _ | assumption | refine Below.drew ?_ | refine Below.alloc ?_ (by first | omega | (simp; done) | (simp; omega)) _ | refine Below.setCell ?_ (by first | omega | (simp; done) | (simp; omega)) _)) : Below w.heap.size w _).trans (r1.mono (by simp; omega))
  have Z2 : Blk w1 (w.heap.size + 2) #[.int .i64 0, .slice none 0 0] 28 := Blk.step (Blk.new' (by simp)) r1
  have k2 := Z2.cell; have f2 := Z2.froz; have l2 := Z2.lt
  clear r1
  go_wp2_with fail
  have Z := ((Z2.put 0 (.int .i64 0)).put 1 (.slice none 0 0)).eq (show _ = #[.int .i64 0, .slice none 0 0] by simp)
  have bz : Below w.heap.size w ((w1.setCell ⟨w.heap.size + 2, 0, none⟩ (.int .i64 0)).setCell ⟨w.heap.size + 2, 1, none⟩ (.slice none 0 0)) := (b1.setCell (p := ⟨w.heap.size + 2, 0, none⟩) (Nat.le_add_right _ _) _).setCell (p := ⟨w.heap.size + 2, 1, none⟩) (Nat.le_add_right _ _) _
  clear k2 f2 l2 Z2
  generalize (w1.setCell ⟨w.heap.size + 2, 0, none⟩ (.int .i64 0)).setCell ⟨w.heap.size + 2, 1, none⟩ (.slice none 0 0) = W' at *
  have kz := Z.cell; have lz := Z.lt
  refine bodyPost_ret (v := .tuple #[.agg #[.int .i64 0, .slice none 0 0], .int .i64 2]) (by simp [results, Try.results19, go_sem, *]) rfl ⟨rfl, bz⟩
end Go.Proofs.Ytikkmoleneioeaa

namespace Go.Proofs.Ytikkmoleneioeaa
open Go.RowKit

end Go.Proofs.Ytikkmoleneioeaa
