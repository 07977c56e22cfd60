/- rational.Union. -/
import Derived.Test.YtfikkpgigicepaaBd
import Derived.Test.YtfikkpgigicepaaMBox
namespace Go.Proofs.Ytfikkpgigicepaa
open Go.RowKit

/-- a machine is put behind; its start is reached from state 0 -/
def unionStep (ss : List StateL) (m : MachL) : List StateL :=
  if 0 ≤ m.start then addS (ss ++ m.states.map (movS ss.length)) (0, ⟨0, 0, 0, m.start + ss.length⟩) else ss ++ m.states.map (movS ss.length)
def unionS (a b : MachL) : Nat → List StateL
  | 0 => [⟨1000000001, []⟩]
  | 1 => unionStep [⟨1000000001, []⟩] a
  | _ => unionStep (unionStep [⟨1000000001, []⟩] a) b
def unionM (a b : MachL) : MachL := ⟨0, unionS a b 2⟩
theorem ix0 (a b c d : Value) (W : World) : (Instr.index 101 (.agg #[a, b, c, d]) (.int .i64 0)).run Try.prog W = .ok (.agg #[a, b]) W := by kernel_rfl
theorem ix1 (a b c d : Value) (W : World) : (Instr.index 101 (.agg #[a, b, c, d]) (.int .i64 1)).run Try.prog W = .ok (.agg #[c, d]) W := by kernel_rfl
theorem unionStep_len (ss : List StateL) (m : MachL) : (unionStep ss m).length = ss.length + m.states.length := by
  unfold unionStep; split <;> simp [addS_len]

set_option maxRecDepth 100000 in
set_option maxHeartbeats 8000000 in
theorem Union_any (v1 v2 : Value) (m1 m2 : MachL) (w : World) (h1 : MachAt w v1 m1) (h2 : MachAt w v2 m2) (k1 : Valid m1) (k2 : Valid m2) (hu : Valid (unionM m1 m2)) :
    Calls Try.prog 24 #[v1, v2] w fun e w' => ∃ mv, e = .returned (.tuple #[mv, .int .i64 0]) ∧ OwnMach w' w.heap.size mv (unionM m1 m2) ∧ Below w.heap.size w w' := by
  have HBO := Lib.hid (fun W' (hb : Below w.heap.size w W') => rboth_any v1 v2 m1 m2 W' (h1.below hb) (h2.below hb) k1 k2)
  obtain ⟨A1, c1, rfl, hS1⟩ := h1
  obtain ⟨A2, c2, rfl, hS2⟩ := h2
  have HS1 := Lib.hid hS1; have HS2 := Lib.hid hS2
  have K1 := Lib.hid k1; have K2 := Lib.hid k2; have HU := Lib.hid hu
  have z1 := k1.size; have z2 := k2.size
  have hvl : ∀ m : MachL, Valid m → (∀ s ∈ m.states, s.arcs.length ≤ 1000) ∧ ∀ s ∈ m.states, ∀ a ∈ s.arcs, 0 ≤ a.to ∧ a.to ≤ 1000 := fun m hv =>
    ⟨fun s hs => by
      have h3 := hv.arcs
      have key : ∀ l : List StateL, s ∈ l → s.arcs.length ≤ arcsOf l := by
        intro l
        induction l with
        | nil => intro h; cases h
        | cons x l ih =>
          intro h
          unfold arcsOf
          simp only [List.map_cons, List.sum_cons]
          rcases List.mem_cons.1 h with rfl | h
          · omega
          · have := ih h; unfold arcsOf at this; omega
      have := key _ hs
      omega,
    fun s hs a ha => by
      have h3 := (hv.st s hs).2 a ha
      have := h3.t0; have := h3.t1; have := hv.size
      omega⟩
  have V1 := Lib.hid (hvl m1 k1); have V2 := Lib.hid (hvl m2 k2)
  clear hS1 hS2 k1 k2 hu hvl
  go_enter Try.func24, Try.ntmps24
  go_wp2_with fail
  refine (HBO.out _ (by repeat' (first | exact Below.refl _ _ | assumption | refine Below.drew ?_ | refine Below.alloc ?_ (by first | omega | (simp; done) | (simp; omega)) _ | refine Below.setCell ?_ (by first | omega | (simp; done) | (simp; omega)) _))).mono ?_; rintro e w1 ⟨rfl, r1⟩
  have b1 : Below w.heap.size w w1 := ((by repeat' (first | exact Below.refl _ _ | assumption | refine Below.drew ?_ | refine Below.alloc ?_ (by first | omega | (simp; done) | (simp; omega)) _ | refine Below.setCell ?_ (by first | omega | (simp; done) | (simp; omega)) _)) : Below w.heap.size w _).trans (r1.mono (by simp; omega))
  have X1 : Hid (Blk w1 w.heap.size #[.int .i64 m1.start, .slice A1 m1.states.length c1] 28) := Lib.hid (Blk.step (((Blk.new _ _ _).alloc _).alloc _) r1)
  have X2 : Hid (Blk w1 (w.heap.size + 1) #[.int .i64 m2.start, .slice A2 m2.states.length c2] 28) := Lib.hid (Blk.step ((Blk.new' (by simp)).alloc _) r1)
  have X3 : Hid (Blk w1 (w.heap.size + 2) #[.int .i64 0, .slice none 0 0] 28) := Lib.hid (Blk.step (Blk.new' (by simp)) r1)
  clear r1 HBO
  have q1 := X1.out.cell; have l1 := X1.out.lt; have q2 := X2.out.cell; have l2 := X2.out.lt; have l3 := X3.out.lt
  go_upto_region 7 with fail
  have B0 : BD w1.heap.size ((w1.alloc (.cells #[.int .i64 0, .slice (some ⟨w1.heap.size + 1, 0, none⟩) 1 1] 100)).alloc (.cells #[.int .i64 1000000001, .slice none 0 0] 40)) 0 (.slice (some ⟨w1.heap.size + 1, 0, none⟩) 1 1) [.slice none 0 0] [⟨1000000001, []⟩] := by
    refine ⟨(Blk.new _ _ _).alloc _, ⟨rfl, ?_, fun i hi hi' => ?_⟩, fun i j hi hj hij => ?_⟩
    · have := World.ownsRow_lit (base := w1.heap.size) (e := 40) (size := 2) (w1.alloc (.cells #[.int .i64 0, .slice (some ⟨w1.heap.size + 1, 0, none⟩) 1 1] 100)) #[.int .i64 1000000001, .slice none 0 0] 1 (by simp) (by simp [maxLen]) rfl
      simpa [statesCells, stCells] using this
    · simp at hi; subst hi; exact OwnArcs.nil _ _
    · simp at hi hj; omega
  have b2 : Below w1.heap.size w1 ((w1.alloc (.cells #[.int .i64 0, .slice (some ⟨w1.heap.size + 1, 0, none⟩) 1 1] 100)).alloc (.cells #[.int .i64 1000000001, .slice none 0 0] 40)) := (by repeat' (first | exact Below.refl _ _ | assumption | refine Below.drew ?_ | refine Below.alloc ?_ (by first | omega | (simp; done) | (simp; omega)) _ | refine Below.setCell ?_ (by first | omega | (simp; done) | (simp; omega)) _))
  generalize (w1.alloc (.cells #[.int .i64 0, .slice (some ⟨w1.heap.size + 1, 0, none⟩) 1 1] 100)).alloc (.cells #[.int .i64 1000000001, .slice none 0 0] 40) = w2 at *
  have ALS : Hid (∀ s ∈ unionS m1 m2 1, s.arcs.length ≤ 2000) := Lib.hid (fun s hs => by
    have hv := V1.out.1
    simp only [unionS] at hs
    unfold unionStep at hs
    split at hs
    · rw [addS_eq _ _ (by simp)] at hs
      rcases List.mem_or_eq_of_mem_set hs with h | rfl
      · rcases List.mem_append.1 h with h | h
        · simp at h; subst h; simp
        · obtain ⟨s', hs', rfl⟩ := List.mem_map.1 h
          have := hv s' hs'
          simp only [movS, List.length_map]; omega
      · simp
    · rcases List.mem_append.1 hs with h | h
      · simp at h; subst h; simp
      · obtain ⟨s', hs', rfl⟩ := List.mem_map.1 h
        have := hv s' hs'
        simp only [movS, List.length_map]; omega)
  clear q1 q2
  go_loopw [25] (fun i wr => ∃ (k : Nat) (sv : Value) (vs : List Value), k ≤ 2 ∧ i = .int .i64 k ∧ BD w1.heap.size wr 0 sv vs (unionS m1 m2 k) ∧ BF w1.heap.size w2 wr) (fun i _ => 2 - (intOf i).toNat)
  case atStart => exact ⟨0, _, _, by omega, rfl, B0, BF.refl _ _⟩
  case round =>
    obtain ⟨k, sv, vs, hk, rfl, hM, hF⟩ := hrel
    have HM := Lib.hid hM; have HF := Lib.hid hF
    clear hF
    have hk3 : k = 0 ∨ k = 1 ∨ k = 2 := by omega
    rcases hk3 with rfl | rfl | rfl
    · have hM0 := hM
      have hlen : (unionS m1 m2 0).length ≤ 61 + 0 * 60 := by simp [unionS]
      have hpos : 0 < (unionS m1 m2 0).length := by simp [unionS]
      have hss : unionS m1 m2 (0 + 1) = unionStep (unionS m1 m2 0) m1 := rfl
      have HSS := Lib.hid hss
      have hal : ∀ s ∈ unionS m1 m2 0, s.arcs.length ≤ 2000 := by simp [unionS]
      have HAL := Lib.hid hal
      have vs1 := V1.out
      have vz := K1.out.size
      have vst := K1.out.s1
      have HST := Lib.hid (fun W' (hb : Below w1.heap.size w1 W') => HS1.out.below (b1.trans (hb.mono b1.size)) (Nat.le_refl _))
      generalize hs2 : unionS m1 m2 (0 + 1) = s2 at *
      have HS2E := Lib.hid hs2; clear hs2
      generalize unionS m1 m2 0 = s1 at *
      have lm := hM.lt
      have hbel := HF.out.bel
      have hM2 := HM.out.keep (W' := wr.alloc (.cells #[.int .i64 m1.start, .slice A1 m1.states.length c1] 28)) ((Below.refl _ _).alloc (Nat.le_refl _) _)
      have hF2 := HF.out.trans (BF.below ((Below.refl wr.heap.size wr).alloc (Nat.le_refl _) (.cells #[.int .i64 m1.start, .slice A1 m1.states.length c1] 28)) (by omega))
      have BT : Blk (wr.alloc (.cells #[.int .i64 m1.start, .slice A1 m1.states.length c1] 28)) wr.heap.size _ _ := Blk.new _ _ _
      have HM2 := Lib.hid hM2; have HF2 := Lib.hid hF2
      have hix := ix0 (.int .i64 m1.start) (.slice A1 m1.states.length c1) (.int .i64 m2.start) (.slice A2 m2.states.length c2)
      clear hM hM0 hM2 hF2 hss hal
      go_upto_region 9 with fail
      clear hix
      generalize wr.alloc (.cells #[.int .i64 m1.start, .slice A1 m1.states.length c1] 28) = w3 at *
      have kt := BT.cell; have lt := BT.lt
      go_wp2_with fail
      refine (addm_any w1.heap.size w3 0 _ _ s1 HM2.out m1.start A1 c1 m1.states (fun W' hb => HST.out W' (b2.trans (HF2.out.bel.trans hb))) (by omega) vs1.1 vs1.2).mono ?_
      rintro e w4 ⟨rfl, sv4, vs4, h4, f4⟩
      have BT4 := f4.far _ _ _ BT (by decide) (by decide) (by decide)
      have H4 := Lib.hid h4; have F4 := Lib.hid (HF2.out.trans f4)
      have k4 := BT4.cell; have l4 := BT4.lt
      clear h4 f4 kt lt BT
      by_cases hst : 0 ≤ m1.start
      · have hwr : IntKind.i64.wrap (m1.start + (s1.length : Int)) = m1.start + (s1.length : Int) := IntWalk.i64_in _ (by omega)
        have HEQ : Hid (addS (s1 ++ m1.states.map (movS s1.length)) (0, ⟨0, 0, 0, m1.start + s1.length⟩) = s2) := Lib.hid (by rw [HSS.out]; unfold unionStep; rw [if_pos hst])
        have hA4 : ∀ s ∈ s1 ++ m1.states.map (movS s1.length), s.arcs.length ≤ 100000 := fun s hs => by
          rcases List.mem_append.1 hs with hs | hs
          · have := HAL.out s hs; omega
          · obtain ⟨s', hs', rfl⟩ := List.mem_map.1 hs
            have := vs1.1 s' hs'
            simp only [movS, List.length_map]; omega
        have HA4 := Lib.hid hA4
        clear hA4 vs1
        go_wp2_with fail
        refine (hop_any w1.heap.size w4 0 sv4 vs4 _ H4.out 0 (by simp; omega) (by simp; omega) HA4.out (m1.start + s1.length) 0).mono ?_
        rintro e w5 ⟨rfl, sv5, vs5, h5, f5⟩
        rw [HEQ.out] at h5
        have H5 := Lib.hid h5; have F5 := Lib.hid (F4.out.trans f5)
        clear h5 f5 k4 l4
        go_wp2_with fail
        go_roundw
        case rel => exact ⟨0 + 1, _, _, by omega, by go_num, by rw [HS2E.out]; exact H5.out, F5.out⟩
        case measure => simp [intOf]
      · have HEQ : Hid (s1 ++ m1.states.map (movS s1.length) = s2) := Lib.hid (by rw [HSS.out]; unfold unionStep; rw [if_neg hst])
        clear vs1
        go_wp2_with fail
        go_roundw
        case rel => exact ⟨0 + 1, _, _, by omega, by go_num, by rw [HS2E.out, ← HEQ.out]; exact H4.out, F4.out⟩
        case measure => simp [intOf]
    · have hM0 := hM
      have hlen : (unionS m1 m2 1).length ≤ 61 + 1 * 60 := by simp [unionS, unionStep_len]; omega
      have hpos : 0 < (unionS m1 m2 1).length := by simp [unionS, unionStep_len] <;> omega
      have hss : unionS m1 m2 (1 + 1) = unionStep (unionS m1 m2 1) m2 := rfl
      have HSS := Lib.hid hss
      have hal : ∀ s ∈ unionS m1 m2 1, s.arcs.length ≤ 2000 := ALS.out
      have HAL := Lib.hid hal
      have vs1 := V2.out
      have vz := K2.out.size
      have vst := K2.out.s1
      have HST := Lib.hid (fun W' (hb : Below w1.heap.size w1 W') => HS2.out.below (b1.trans (hb.mono b1.size)) (Nat.le_refl _))
      generalize hs2 : unionS m1 m2 (1 + 1) = s2 at *
      have HS2E := Lib.hid hs2; clear hs2
      generalize unionS m1 m2 1 = s1 at *
      have lm := hM.lt
      have hbel := HF.out.bel
      have hM2 := HM.out.keep (W' := wr.alloc (.cells #[.int .i64 m2.start, .slice A2 m2.states.length c2] 28)) ((Below.refl _ _).alloc (Nat.le_refl _) _)
      have hF2 := HF.out.trans (BF.below ((Below.refl wr.heap.size wr).alloc (Nat.le_refl _) (.cells #[.int .i64 m2.start, .slice A2 m2.states.length c2] 28)) (by omega))
      have BT : Blk (wr.alloc (.cells #[.int .i64 m2.start, .slice A2 m2.states.length c2] 28)) wr.heap.size _ _ := Blk.new _ _ _
      have HM2 := Lib.hid hM2; have HF2 := Lib.hid hF2
      have hix := ix1 (.int .i64 m1.start) (.slice A1 m1.states.length c1) (.int .i64 m2.start) (.slice A2 m2.states.length c2)
      clear hM hM0 hM2 hF2 hss hal
      go_upto_region 9 with fail
      clear hix
      generalize wr.alloc (.cells #[.int .i64 m2.start, .slice A2 m2.states.length c2] 28) = w3 at *
      have kt := BT.cell; have lt := BT.lt
      go_wp2_with fail
      refine (addm_any w1.heap.size w3 0 _ _ s1 HM2.out m2.start A2 c2 m2.states (fun W' hb => HST.out W' (b2.trans (HF2.out.bel.trans hb))) (by omega) vs1.1 vs1.2).mono ?_
      rintro e w4 ⟨rfl, sv4, vs4, h4, f4⟩
      have BT4 := f4.far _ _ _ BT (by decide) (by decide) (by decide)
      have H4 := Lib.hid h4; have F4 := Lib.hid (HF2.out.trans f4)
      have k4 := BT4.cell; have l4 := BT4.lt
      clear h4 f4 kt lt BT
      by_cases hst : 0 ≤ m2.start
      · have hwr : IntKind.i64.wrap (m2.start + (s1.length : Int)) = m2.start + (s1.length : Int) := IntWalk.i64_in _ (by omega)
        have HEQ : Hid (addS (s1 ++ m2.states.map (movS s1.length)) (0, ⟨0, 0, 0, m2.start + s1.length⟩) = s2) := Lib.hid (by rw [HSS.out]; unfold unionStep; rw [if_pos hst])
        have hA4 : ∀ s ∈ s1 ++ m2.states.map (movS s1.length), s.arcs.length ≤ 100000 := fun s hs => by
          rcases List.mem_append.1 hs with hs | hs
          · have := HAL.out s hs; omega
          · obtain ⟨s', hs', rfl⟩ := List.mem_map.1 hs
            have := vs1.1 s' hs'
            simp only [movS, List.length_map]; omega
        have HA4 := Lib.hid hA4
        clear hA4 vs1
        go_wp2_with fail
        refine (hop_any w1.heap.size w4 0 sv4 vs4 _ H4.out 0 (by simp; omega) (by simp; omega) HA4.out (m2.start + s1.length) 0).mono ?_
        rintro e w5 ⟨rfl, sv5, vs5, h5, f5⟩
        rw [HEQ.out] at h5
        have H5 := Lib.hid h5; have F5 := Lib.hid (F4.out.trans f5)
        clear h5 f5 k4 l4
        go_wp2_with fail
        go_roundw
        case rel => exact ⟨1 + 1, _, _, by omega, by go_num, by rw [HS2E.out]; exact H5.out, F5.out⟩
        case measure => simp [intOf]
      · have HEQ : Hid (s1 ++ m2.states.map (movS s1.length) = s2) := Lib.hid (by rw [HSS.out]; unfold unionStep; rw [if_neg hst])
        clear vs1
        go_wp2_with fail
        go_roundw
        case rel => exact ⟨1 + 1, _, _, by omega, by go_num, by rw [HS2E.out, ← HEQ.out]; exact H4.out, F4.out⟩
        case measure => simp [intOf]
    · have hU := HU.out
      have hUE : unionM m1 m2 = ⟨0, unionS m1 m2 2⟩ := rfl
      rw [hUE] at hU
      have HUE := Lib.hid hUE; have HU2 := Lib.hid hU
      clear hU hUE
      generalize unionS m1 m2 2 = s2 at *
      have X4 := HF.out.far _ _ _ (X3.out.step (b2)) (by decide) (by decide) (by decide)
      clear hM
      go_wp2_with fail
      refine (built_any w1.heap.size wr 0 sv vs s2 HM.out HU2.out).mono ?_
      rintro e w5 ⟨mv, rfl, hO, r5⟩
      obtain ⟨sv5, rfl, vs5, hV⟩ := hO
      obtain ⟨A5, c5, rfl, -, -⟩ := hV.form
      have HV5 := Lib.hid hV
      have X5 := X4.step r5
      have k5 := X5.cell; have f5 := X5.froz; have l5 := X5.lt
      have b5 : Below w.heap.size w w5 := b1.trans ((b2.trans (HF.out.bel.trans (r5.mono (by have := HF.out.bel.size; have := b2.size; omega)))).mono b1.size)
      have hb1 := b1.size
      clear hV
      go_wp2_with fail
      refine bodyPost_ret (v := .tuple #[.agg #[.int .i64 0, .slice A5 s2.length c5], .int .i64 0]) (by simp [results, Try.results24, go_sem, *]) rfl ⟨_, rfl, ?_, (b5.setCell (by simp; omega) _).setCell (by simp; omega) _⟩
      rw [HUE.out]
      exact ⟨_, rfl, _, ((HV5.out.setCell (a := ⟨w.heap.size + 1 + 1, 0, none⟩) (by simp; omega) _).setCell (a := ⟨w.heap.size + 1 + 1, 1, none⟩) (by simp; omega) _).mono (by omega)⟩
end Go.Proofs.Ytfikkpgigicepaa
