/- rational.Star. -/
import Derived.Test.YteniblkmokpjjaaConcat
namespace Go.Proofs.Yteniblkmokpjjaa
open Go.RowKit

def star2 (a : MachL) : List StateL := [⟨0, []⟩] ++ a.states.map (movS 1)
def star3 (a : MachL) : List StateL := if 0 ≤ a.start then addS (star2 a) (0, ⟨0, 0, 0, a.start + 1⟩) else star2 a
def starM (a : MachL) : MachL := ⟨0, looseN (star3 a) 1 a.states.length 0⟩
theorem star2_len (a : MachL) : (star2 a).length = a.states.length + 1 := by simp [star2]
theorem star3_len (a : MachL) : (star3 a).length = a.states.length + 1 := by unfold star3; split <;> simp [addS_len, star2_len]

set_option maxRecDepth 100000 in
set_option maxHeartbeats 8000000 in
theorem Star_any (v1 : Value) (m1 : MachL) (w : World) (h1 : MachAt w v1 m1) (k1 : Valid m1) (hu : Valid (starM m1)) :
    Calls Try.prog 24 #[v1] w fun e w' => ∃ mv, e = .returned (.tuple #[mv, .int .i64 0]) ∧ OwnMach w' w.heap.size mv (starM m1) ∧ Below w.heap.size w w' := by
  have HBO := Lib.hid (fun W' (hb : Below w.heap.size w W') => Check_ok v1 m1 W' (h1.below hb) k1)
  obtain ⟨A1, c1, rfl, hS1⟩ := h1
  have HS1 := Lib.hid hS1
  have z1 := k1.size; have y1 := k1.s1
  have V1 := Lib.hid (valid_bounds m1 k1)
  have HCM : Hid (starM m1 = ⟨0, looseN (star3 m1) 1 m1.states.length 0⟩) := Lib.hid rfl
  have HU := Lib.hid hu
  have hl2 := star2_len m1; have hl3 := star3_len m1
  have HC2 : Hid ([⟨0, []⟩] ++ m1.states.map (movS (([⟨0, []⟩] : List StateL).length : Nat)) = star2 m1) := Lib.hid rfl
  have HC3 : Hid (star3 m1 = if 0 ≤ m1.start then addS (star2 m1) (0, ⟨0, 0, 0, m1.start + 1⟩) else star2 m1) := Lib.hid rfl
  have HAL2 : Hid (∀ s ∈ star2 m1, s.arcs.length ≤ 100000) := Lib.hid (fun s hs => by
    unfold star2 at hs
    rcases List.mem_append.1 hs with hs | hs
    · simp at hs; subst hs; simp
    · obtain ⟨s', hs', rfl⟩ := List.mem_map.1 hs
      have := V1.out.1 s' hs'
      simp only [movS, List.length_map]; omega)
  have HAL3 : Hid (∀ s ∈ star3 m1, s.arcs.length ≤ 1000) := Lib.hid (fun s hs => by
    have h0 : ∀ s ∈ star2 m1, s.arcs.length ≤ 1000 := fun s hs => by
      unfold star2 at hs
      rcases List.mem_append.1 hs with hs | hs
      · simp at hs; subst hs; simp
      · obtain ⟨s', hs', rfl⟩ := List.mem_map.1 hs
        have := V1.out.1 s' hs'
        simp only [movS, List.length_map]; omega
    unfold star3 at hs
    split at hs
    · rw [addS_eq _ _ (by simp [star2])] at hs
      rcases List.mem_or_eq_of_mem_set hs with h | rfl
      · exact h0 s h
      · simp [star2]
    · exact h0 s hs)
  have HL2 := Lib.hid hl2; have HL3 := Lib.hid hl3
  clear hS1 k1 hu hl2 hl3
  generalize star3 m1 = s3 at *
  generalize star2 m1 = s2 at *
  go_enter Try.func24, Try.ntmps24
  go_wp2_with fail
  refine (HBO.out _ (by repeat' (first | exact Below.refl _ _ | assumption | refine Below.drew ?_ | refine Below.alloc ?_ (by first | omega | (simp; done) | (simp; omega)) _ | refine Below.setCell ?_ (by first | omega | (simp; done) | (simp; omega)) _))).mono ?_; rintro e w1 ⟨rfl, r1⟩
  have b1 : Below w.heap.size w w1 := ((by repeat' (first | exact Below.refl _ _ | assumption | refine Below.drew ?_ | refine Below.alloc ?_ (by first | omega | (simp; done) | (simp; omega)) _ | refine Below.setCell ?_ (by first | omega | (simp; done) | (simp; omega)) _)) : Below w.heap.size w _).trans (r1.mono (by simp; omega))
  have X1 : Hid (Blk w1 w.heap.size #[.int .i64 m1.start, .slice A1 m1.states.length c1] 27) := Lib.hid (Blk.step ((Blk.new _ _ _).alloc _) r1)
  have X3 : Hid (Blk w1 (w.heap.size + 1) #[.int .i64 0, .slice none 0 0] 27) := Lib.hid (Blk.step (Blk.new' (by simp)) r1)
  clear r1 HBO
  have l1 := X1.out.lt; have l3 := X3.out.lt
  go_upto_region 6 with fail
  have B0 : BD w1.heap.size ((w1.alloc (.cells #[.int .i64 0, .slice (some ⟨w1.heap.size + 1, 0, none⟩) 1 1] 87)).alloc (.cells #[.int .i64 0, .slice none 0 0] 46)) 0 (.slice (some ⟨w1.heap.size + 1, 0, none⟩) 1 1) [.slice none 0 0] [⟨0, []⟩] := by
    refine ⟨(Blk.new _ _ _).alloc _, ⟨rfl, ?_, fun i hi hi' => ?_⟩, fun i j hi hj hij => ?_⟩
    · have := World.ownsRow_lit (base := w1.heap.size) (e := 46) (size := 2) (w1.alloc (.cells #[.int .i64 0, .slice (some ⟨w1.heap.size + 1, 0, none⟩) 1 1] 87)) #[.int .i64 0, .slice none 0 0] 1 (by simp) (by simp [maxLen]) rfl
      simpa [statesCells, stCells] using this
    · simp at hi; subst hi; exact OwnArcs.nil _ _
    · simp at hi hj; omega
  have b2 : Below w1.heap.size w1 ((w1.alloc (.cells #[.int .i64 0, .slice (some ⟨w1.heap.size + 1, 0, none⟩) 1 1] 87)).alloc (.cells #[.int .i64 0, .slice none 0 0] 46)) := (by repeat' (first | exact Below.refl _ _ | assumption | refine Below.drew ?_ | refine Below.alloc ?_ (by first | omega | (simp; done) | (simp; omega)) _ | refine Below.setCell ?_ (by first | omega | (simp; done) | (simp; omega)) _))
  generalize (w1.alloc (.cells #[.int .i64 0, .slice (some ⟨w1.heap.size + 1, 0, none⟩) 1 1] 87)).alloc (.cells #[.int .i64 0, .slice none 0 0] 46) = w2 at *
  have HST1 := Lib.hid (fun W' (hb : Below w1.heap.size w1 W') => HS1.out.below (b1.trans (hb.mono b1.size)) (Nat.le_refl _))
  have Y1 := X1.out.step b2; have Y3 := X3.out.step b2
  have q1 := Y1.cell; have p1 := Y1.lt
  have hb1 := b1.size
  clear X1 X3
  go_wp2_with fail
  refine (addm_any w1.heap.size w2 0 _ _ [⟨0, []⟩] B0 m1.start A1 c1 m1.states (fun W' hb => HST1.out W' (b2.trans hb)) (by simp; omega) V1.out.1 V1.out.2).mono ?_
  rintro e w3 ⟨rfl, sv3, vs3, h3, f3⟩
  rw [HC2.out] at h3
  have Z1 := f3.far _ _ _ Y1 (by decide) (by decide) (by decide); have Z3 := f3.far _ _ _ Y3 (by decide) (by decide) (by decide)
  have q3 := Z1.cell; have p3 := Z1.lt
  have HB3 := Lib.hid h3
  have hq2 : 0 < s2.length ∧ s2.length ≤ 100000 := by have := HL2.out; omega
  clear q1 p1 Y1 Y3 h3 V1
  go_upto_region 7 with fail
  go_upto_if 21 with fail
  go_cut [] (fun wx => ∃ sv vs, BD w1.heap.size wx 0 sv vs s3 ∧ BF w1.heap.size w3 wx)
  case first =>
    by_cases hst : 0 ≤ m1.start
    · have hwr : IntKind.i64.wrap (m1.start + 1) = m1.start + 1 := IntWalk.i64_in _ (by omega)
      have HT := Lib.hid (HC3.out.trans (if_pos hst))
      go_wp2_with fail
      refine (hop_any w1.heap.size w3 0 sv3 vs3 s2 HB3.out 0 hq2.1 hq2.2 HAL2.out (m1.start + 1) 0).mono ?_
      rintro e w4 ⟨rfl, sv4, vs4, h4, f4⟩
      rw [← HT.out] at h4
      have H4 := Lib.hid h4; have F4 := Lib.hid f4
      clear h4 f4
      go_wp2_with fail
      go_meet
      case rel => exact ⟨_, _, H4.out, F4.out⟩
    · have HT := Lib.hid (HC3.out.trans (if_neg hst))
      go_wp2_with fail
      go_meet
      case rel => exact ⟨_, _, by rw [HT.out]; exact HB3.out, BF.refl _ _⟩
  case rest =>
  obtain ⟨sv5, vs5, h5, f5⟩ := hcut
  obtain ⟨w5, rfl⟩ : ∃ w5 : World, w5 = wc := ⟨_, rfl⟩
  have Z5 := f5.far _ _ _ Z1 (by decide) (by decide) (by decide); have Z6 := f5.far _ _ _ Z3 (by decide) (by decide) (by decide)
  have H5 := Lib.hid h5; have F5 := Lib.hid (f3.trans f5)
  have q5 := Z5.cell; have p5 := Z5.lt
  clear q3 p3 Z1 Z3 h5 f5 f3 HB3
  go_wp2_with fail
  refine (loose_any w1.heap.size w5 0 sv5 vs5 s3 H5.out 1 m1.states.length 0 (by have := HL3.out; omega) (by have := HL3.out; omega) HAL3.out).mono ?_
  rintro e w6 ⟨rfl, sv6, vs6, h6, f6⟩
  have Z4 := f6.far _ _ _ Z6 (by decide) (by decide) (by decide)
  have H6 := Lib.hid h6; have F6 := Lib.hid (F5.out.trans f6)
  have hU := HU.out
  rw [HCM.out] at hU
  have HU2 := Lib.hid hU
  clear h6 f6 Z6 Z5 hU q5 p5
  generalize looseN s3 1 m1.states.length 0 = s6 at *
  go_wp2_with fail
  refine (built_any w1.heap.size w6 0 sv6 vs6 s6 H6.out HU2.out).mono ?_
  rintro e w7 ⟨mv, rfl, hO, r7⟩
  obtain ⟨sv7, rfl, vs7, hV⟩ := hO
  obtain ⟨A7, c7, rfl, -, -⟩ := hV.form
  have HV7 := Lib.hid hV
  have X5 := Z4.step r7
  have k5 := X5.cell; have f5 := X5.froz; have l5 := X5.lt
  have b7 : Below w.heap.size w w7 := b1.trans ((b2.trans (F6.out.bel.trans (r7.mono (by have := F6.out.bel.size; have := b2.size; omega)))).mono b1.size)
  clear hV
  go_wp2_with fail
  refine bodyPost_ret (v := .tuple #[.agg #[.int .i64 0, .slice A7 s6.length c7], .int .i64 0]) (by simp [results, Try.results24, go_sem, *]) rfl ⟨_, rfl, ?_, (b7.setCell (by simp) _).setCell (by simp) _⟩
  rw [HCM.out]
  exact ⟨_, rfl, _, ((HV7.out.setCell (a := ⟨w.heap.size + 1, 0, none⟩) (by simp; omega) _).setCell (a := ⟨w.heap.size + 1, 1, none⟩) (by simp; omega) _).mono (by omega)⟩
end Go.Proofs.Yteniblkmokpjjaa
