/- rational.Concat, rational.Star. -/
import Derived.Test.YteniblkmokpjjaaBd
import Derived.Test.YteniblkmokpjjaaMBox
namespace Go.Proofs.Yteniblkmokpjjaa
open Go.RowKit

theorem valid_bounds (m : MachL) (hv : Valid m) : (∀ s ∈ m.states, s.arcs.length ≤ 1000) ∧ ∀ s ∈ m.states, ∀ a ∈ s.arcs, 0 ≤ a.to ∧ a.to ≤ 1000 :=
    ⟨fun s hs => by
      have h3 := hv.arcs
      have key : ∀ l : List StateL, s ∈ l → s.arcs.length ≤ arcsOf l := by
        intro l
        induction l with
        | nil => intro h; cases h
        | cons x l ih =>
          intro h
          unfold arcsOf
          simp only [List.map_cons, List.sum_cons]
          rcases List.mem_cons.1 h with rfl | h
          · omega
          · have := ih h; unfold arcsOf at this; omega
      have := key _ hs
      omega,
    fun s hs a ha => by
      have h3 := (hv.st s hs).2 a ha
      have := h3.t0; have := h3.t1; have := hv.size
      omega⟩
theorem BD.setStart {b : Nat} {W : World} {st : Int} {sv : Value} {vs : List Value} {ss : List StateL} (h : BD b W st sv vs ss) (n : Int) : BD b (W.setCell ⟨b, 0, none⟩ (.int .i64 n)) n sv vs ss ∧ BF b W (W.setCell ⟨b, 0, none⟩ (.int .i64 n)) := by
  refine ⟨⟨(h.box.put 0 _).eq (by simp), ⟨h.own.len, own_setCell h.own.row (by simpa using h.row_ne) _, fun i hi hi' => (h.own.arcs i hi hi').setCell (by simpa using h.arcs_ne hi hi') _⟩, h.apart⟩, (Below.refl b W).setCell (by simp) _, fun k cs t hB h1 h2 h3 => hB.far (fun e => ?_) _⟩
  simp only at e; subst e
  have := h.box; unfold Blk at this hB; rw [this] at hB; simp at hB; exact h3 hB.2.symm

def concat1 (a : MachL) : List StateL := a.states.map (movS 0)
def concat2 (a b : MachL) : List StateL := concat1 a ++ b.states.map (movS (concat1 a).length)
def concatT (a b : MachL) : Int := if 0 ≤ b.start then b.start + (concat1 a).length else -1
def concatM (a b : MachL) : MachL := ⟨a.start, looseN (concat2 a b) 0 (concat1 a).length (concatT a b)⟩
theorem concat1_len (a : MachL) : (concat1 a).length = a.states.length := by simp [concat1]

set_option maxRecDepth 100000 in
set_option maxHeartbeats 8000000 in
theorem Concat_any (v1 v2 : Value) (m1 m2 : MachL) (w : World) (h1 : MachAt w v1 m1) (h2 : MachAt w v2 m2) (k1 : Valid m1) (k2 : Valid m2) (hu : Valid (concatM m1 m2)) :
    Calls Try.prog 23 #[v1, v2] w fun e w' => ∃ mv, e = .returned (.tuple #[mv, .int .i64 0]) ∧ OwnMach w' w.heap.size mv (concatM m1 m2) ∧ Below w.heap.size w w' := by
  have HBO := Lib.hid (fun W' (hb : Below w.heap.size w W') => both_any v1 v2 m1 m2 W' (h1.below hb) (h2.below hb) k1 k2)
  obtain ⟨A1, c1, rfl, hS1⟩ := h1
  obtain ⟨A2, c2, rfl, hS2⟩ := h2
  have HS1 := Lib.hid hS1; have HS2 := Lib.hid hS2
  have z1 := k1.size; have z2 := k2.size; have y1 := k2.s1
  have V1 := Lib.hid (valid_bounds m1 k1); have V2 := Lib.hid (valid_bounds m2 k2)
  have HCM : Hid (concatM m1 m2 = ⟨m1.start, looseN (concat2 m1 m2) 0 (concat1 m1).length (concatT m1 m2)⟩) := Lib.hid rfl
  have HU := Lib.hid hu
  clear hS1 hS2 k1 k2 hu
  go_enter Try.func23, Try.ntmps23
  go_wp2_with fail
  refine (HBO.out _ (by repeat' (first | exact Below.refl _ _ | assumption | refine Below.drew ?_ | refine Below.alloc ?_ (by first | omega | (simp; done) | (simp; omega)) _ | refine Below.setCell ?_ (by first | omega | (simp; done) | (simp; omega)) _))).mono ?_; rintro e w1 ⟨rfl, r1⟩
  have b1 : Below w.heap.size w w1 := ((by repeat' (first | exact Below.refl _ _ | assumption | refine Below.drew ?_ | refine Below.alloc ?_ (by first | omega | (simp; done) | (simp; omega)) _ | refine Below.setCell ?_ (by first | omega | (simp; done) | (simp; omega)) _)) : Below w.heap.size w _).trans (r1.mono (by simp; omega))
  have X1 : Hid (Blk w1 w.heap.size #[.int .i64 m1.start, .slice A1 m1.states.length c1] 27) := Lib.hid (Blk.step (((Blk.new _ _ _).alloc _).alloc _) r1)
  have X2 : Hid (Blk w1 (w.heap.size + 1) #[.int .i64 m2.start, .slice A2 m2.states.length c2] 27) := Lib.hid (Blk.step ((Blk.new' (by simp)).alloc _) r1)
  have X3 : Hid (Blk w1 (w.heap.size + 2) #[.int .i64 0, .slice none 0 0] 27) := Lib.hid (Blk.step (Blk.new' (by simp)) r1)
  clear r1 HBO
  have l1 := X1.out.lt; have l2 := X2.out.lt; have l3 := X3.out.lt
  go_upto_region 5 with fail
  have B0 : BD w1.heap.size (w1.alloc (.cells #[.int .i64 0, .slice none 0 0] 87)) 0 (.slice none 0 0) [] [] := ⟨Blk.new _ _ _, OwnStV.nil _ _, fun i j hi hj hij => by simp at hi⟩
  have b2 : Below w1.heap.size w1 (w1.alloc (.cells #[.int .i64 0, .slice none 0 0] 87)) := (by repeat' (first | exact Below.refl _ _ | assumption | refine Below.drew ?_ | refine Below.alloc ?_ (by first | omega | (simp; done) | (simp; omega)) _ | refine Below.setCell ?_ (by first | omega | (simp; done) | (simp; omega)) _))
  generalize w1.alloc (.cells #[.int .i64 0, .slice none 0 0] 87) = w2 at *
  have HST1 := Lib.hid (fun W' (hb : Below w1.heap.size w1 W') => HS1.out.below (b1.trans (hb.mono b1.size)) (Nat.le_refl _))
  have HST2 := Lib.hid (fun W' (hb : Below w1.heap.size w1 W') => HS2.out.below (b1.trans (hb.mono b1.size)) (Nat.le_refl _))
  have Y1 := X1.out.step b2; have Y2 := X2.out.step b2; have Y3 := X3.out.step b2
  have q1 := Y1.cell; have p1 := Y1.lt
  have hb1 := b1.size
  clear X1 X2 X3
  go_wp2_with fail
  refine (addm_any w1.heap.size w2 0 _ _ [] B0 m1.start A1 c1 m1.states (fun W' hb => HST1.out W' (b2.trans hb)) (by simp; omega) V1.out.1 V1.out.2).mono ?_
  rintro e w3 ⟨rfl, sv3, vs3, h3, f3⟩
  have e3 : ([] ++ m1.states.map (movS (([] : List StateL).length : Nat))) = concat1 m1 := rfl
  rw [e3] at h3
  have hl3 := concat1_len m1
  have Z1 := f3.far _ _ _ Y1 (by decide) (by decide) (by decide); have Z2 := f3.far _ _ _ Y2 (by decide) (by decide) (by decide); have Z3 := f3.far _ _ _ Y3 (by decide) (by decide) (by decide)
  have q3 := Z1.cell; have p3 := Z1.lt
  have hS := h3.setStart m1.start
  have kb := h3.box.cell; have fb := h3.box.froz; have lb := h3.lt
  have HL3 := Lib.hid hl3
  have HAL : Hid (∀ s ∈ concat2 m1 m2, s.arcs.length ≤ 1000) := Lib.hid (fun s hs => by
    unfold concat2 concat1 at hs
    rcases List.mem_append.1 hs with hs | hs
    · obtain ⟨s', hs', rfl⟩ := List.mem_map.1 hs
      have := V1.out.1 s' hs'
      simp only [movS, List.length_map]; omega
    · obtain ⟨s', hs', rfl⟩ := List.mem_map.1 hs
      have := V2.out.1 s' hs'
      simp only [movS, List.length_map]; omega)
  have HC2 : Hid (concat2 m1 m2 = concat1 m1 ++ m2.states.map (movS (concat1 m1).length)) := Lib.hid rfl
  have HCT : Hid (concatT m1 m2 = if 0 ≤ m2.start then m2.start + (concat1 m1).length else -1) := Lib.hid rfl
  have hs61 : (concat1 m1).length ≤ 60 := by omega
  clear e3 hl3 q1 p1 Y1 Y2 Y3 h3 V1
  generalize concatT m1 m2 = T at *
  generalize concat2 m1 m2 = s2 at *
  generalize concat1 m1 = s1 at *
  have HS3 := Lib.hid hS.1
  have F3 := Lib.hid (f3.trans hS.2)
  have Z2' := hS.2.far _ _ _ Z2 (by decide) (by decide) (by decide); have Z3' := hS.2.far _ _ _ Z3 (by decide) (by decide) (by decide)
  clear hS f3 Z2 Z3
  go_upto_region 7 with fail
  generalize w3.setCell ⟨w1.heap.size, 0, none⟩ (.int .i64 m1.start) = w4 at *
  clear q3 p3 Z1 kb fb lb
  have q4 := Z2'.cell; have p4 := Z2'.lt
  go_wp2_with fail
  refine (addm_any w1.heap.size w4 m1.start _ _ s1 HS3.out m2.start A2 c2 m2.states (fun W' hb => HST2.out W' (b2.trans (F3.out.bel.trans hb))) (by omega) V2.out.1 V2.out.2).mono ?_
  rintro e w5 ⟨rfl, sv5, vs5, h5, f5⟩
  rw [← HC2.out] at h5
  have Z2 := f5.far _ _ _ Z2' (by decide) (by decide) (by decide); have Z3 := f5.far _ _ _ Z3' (by decide) (by decide) (by decide)
  have H5 := Lib.hid h5; have F5 := Lib.hid (F3.out.trans f5)
  have q5 := Z2.cell; have p5 := Z2.lt
  have hl2 : s2.length ≤ 120 ∧ s1.length ≤ s2.length := by rw [HC2.out]; simp; omega
  clear h5 f5 q4 p4 Z2' Z3'
  go_upto_region 9 with fail
  go_upto_if 27 with fail
  go_cut [9] (fun tv wx => tv = .int .i64 T ∧ wx = w5)
  case first =>
    by_cases hst : 0 ≤ m2.start
    · have hwr : IntKind.i64.wrap (m2.start + (s1.length : Int)) = m2.start + (s1.length : Int) := IntWalk.i64_in _ (by omega)
      have HT := Lib.hid (HCT.out.trans (if_pos hst))
      go_wp2_with fail
      go_meet
      case rel => exact ⟨by rw [HT.out], rfl⟩
    · have HT := Lib.hid (HCT.out.trans (if_neg hst))
      go_wp2_with fail
      go_meet
      case rel => exact ⟨by rw [HT.out], rfl⟩
  case rest =>
  obtain ⟨rfl, rfl⟩ := hcut
  obtain ⟨w5, rfl⟩ : ∃ w5 : World, w5 = wc := ⟨_, rfl⟩
  clear q5 p5 Z2
  go_wp2_with fail
  refine (loose_any w1.heap.size w5 m1.start sv5 vs5 s2 H5.out 0 s1.length T (by omega) (by omega) HAL.out).mono ?_
  rintro e w6 ⟨rfl, sv6, vs6, h6, f6⟩
  have Z4 := f6.far _ _ _ Z3 (by decide) (by decide) (by decide)
  have H6 := Lib.hid h6; have F6 := Lib.hid (F5.out.trans f6)
  have hU := HU.out
  rw [HCM.out] at hU
  have HU2 := Lib.hid hU
  clear h6 f6 Z3 hU
  generalize looseN s2 0 s1.length T = s6 at *
  go_wp2_with fail
  refine (built_any w1.heap.size w6 m1.start sv6 vs6 s6 H6.out HU2.out).mono ?_
  rintro e w7 ⟨mv, rfl, hO, r7⟩
  obtain ⟨sv7, rfl, vs7, hV⟩ := hO
  obtain ⟨A7, c7, rfl, -, -⟩ := hV.form
  have HV7 := Lib.hid hV
  have X5 := Z4.step r7
  have k5 := X5.cell; have f5 := X5.froz; have l5 := X5.lt
  have b7 : Below w.heap.size w w7 := b1.trans ((b2.trans (F6.out.bel.trans (r7.mono (by have := F6.out.bel.size; have := b2.size; omega)))).mono b1.size)
  clear hV
  go_wp2_with fail
  refine bodyPost_ret (v := .tuple #[.agg #[.int .i64 m1.start, .slice A7 s6.length c7], .int .i64 0]) (by simp [results, Try.results23, go_sem, *]) rfl ⟨_, rfl, ?_, (b7.setCell (by simp; omega) _).setCell (by simp; omega) _⟩
  rw [HCM.out]
  exact ⟨_, rfl, _, ((HV7.out.setCell (a := ⟨w.heap.size + 1 + 1, 0, none⟩) (by simp; omega) _).setCell (a := ⟨w.heap.size + 1 + 1, 1, none⟩) (by simp; omega) _).mono (by omega)⟩
end Go.Proofs.Yteniblkmokpjjaa
