/- Invert, Reads, Writes; alike. -/
import Derived.Test.YtphoioejhdjbaaaTurn
namespace Go.Proofs.Ytphoioejhdjbaaa
open Go.RowKit

theorem enterInv (x : Array Value) (W : World) : (callFunc 47 x).run Try.prog W = .ok (.enter 47 x) W := by simp [go_sem]
theorem enterReads (x : Array Value) (W : World) : (callFunc 48 x).run Try.prog W = .ok (.enter 48 x) W := by simp [go_sem]
theorem eachM_valid {F : ArcL → ArcL} (hF : ∀ (n : Int) a, ValidArc n a → ValidArc n (F a)) {m : MachL} (h : Valid m) : Valid (eachM F m) := by
  have hl : (eachM F m).states.length = m.states.length := by simp [eachM]
  refine ⟨by rw [hl]; exact h.size, ?_, h.s0, by rw [hl]; exact h.s1, ?_⟩
  · have : arcsOf (eachM F m).states = arcsOf m.states := by
      unfold arcsOf eachM; simp only [List.map_map]; congr 1; apply List.map_congr_left; intro s _; simp
    rw [this]; exact h.arcs
  · intro s hs
    rw [hl]
    unfold eachM at hs
    obtain ⟨s0, h0, rfl⟩ := List.mem_map.1 hs
    refine ⟨(h.st s0 h0).1, fun a ha => ?_⟩
    obtain ⟨a0, ha0, rfl⟩ := List.mem_map.1 ha
    exact hF _ _ ((h.st s0 h0).2 a0 ha0)

set_option maxRecDepth 100000 in
theorem Invert_any (v : Value) (m : MachL) (w : World) (hm : MachAt w v m) (hv : Valid m) :
    Calls Try.prog 28 #[v] w fun e w' => ∃ mv, e = .returned (.tuple #[mv, .int .i64 0]) ∧ OwnMach w' w.heap.size mv (eachM invA m) ∧ Below w.heap.size w w' := by
  have HE := Lib.hid (fun W hb => each_any _ invA enterInv inv_any v m W (hm.below hb) hv)
  obtain ⟨A, c, rfl, hS⟩ := hm
  clear hS hv
  go_enter Try.func28, Try.ntmps28
  go_wp2_with fail
  refine (HE.out _ (by repeat' (first | exact Below.refl _ _ | assumption | refine Below.drew ?_ | refine Below.alloc ?_ (by first | omega | (simp; done) | (simp; omega)) _ | refine Below.setCell ?_ (by first | omega | (simp; done) | (simp; omega)) _))).mono ?_
  rintro e w1 ⟨mv, rfl, hO, bel⟩
  obtain ⟨sv, rfl, vs, hV⟩ := hO
  have HV := Lib.hid hV
  obtain ⟨A', c', rfl, -, -⟩ := hV.form
  obtain ⟨c1, f1⟩ := bcell bel; have z1 := bel.size; simp at z1
  have y1 : w.heap.size + 1 < w1.heap.size := by omega
  clear hV
  go_wp2_with fail
  refine bodyPost_ret (v := .tuple #[.agg #[.int .i64 (eachM invA m).start, .slice A' (eachM invA m).states.length c'], .int .i64 0]) (by simp [results, Try.results28, go_sem, *]) rfl ⟨_, rfl, ?_, ?_⟩
  · exact ⟨_, rfl, vs, ((HV.out.setCell (a := ⟨w.heap.size + 1, 0, none⟩) (by simp) _).setCell (a := ⟨w.heap.size + 1, 1, none⟩) (by simp) _).mono (by simp; omega)⟩
  · exact (by repeat' (first | exact Below.refl _ _ | assumption | refine Below.step ?_ bel | refine Below.drew ?_ | refine Below.alloc ?_ (by first | omega | (simp; done) | (simp; omega)) _ | refine Below.setCell ?_ (by first | omega | (simp; done) | (simp; omega)) _))
set_option maxRecDepth 100000 in
theorem Reads_any (v : Value) (m : MachL) (w : World) (hm : MachAt w v m) (hv : Valid m) :
    Calls Try.prog 30 #[v] w fun e w' => ∃ mv, e = .returned (.tuple #[mv, .int .i64 0]) ∧ OwnMach w' w.heap.size mv (eachM readA m) ∧ Below w.heap.size w w' := by
  have HE := Lib.hid (fun W hb => each_any _ readA enterReads read_any v m W (hm.below hb) hv)
  obtain ⟨A, c, rfl, hS⟩ := hm
  clear hS hv
  go_enter Try.func30, Try.ntmps30
  go_wp2_with fail
  refine (HE.out _ (by repeat' (first | exact Below.refl _ _ | assumption | refine Below.drew ?_ | refine Below.alloc ?_ (by first | omega | (simp; done) | (simp; omega)) _ | refine Below.setCell ?_ (by first | omega | (simp; done) | (simp; omega)) _))).mono ?_
  rintro e w1 ⟨mv, rfl, hO, bel⟩
  obtain ⟨sv, rfl, vs, hV⟩ := hO
  have HV := Lib.hid hV
  obtain ⟨A', c', rfl, -, -⟩ := hV.form
  obtain ⟨c1, f1⟩ := bcell bel; have z1 := bel.size; simp at z1
  have y1 : w.heap.size + 1 < w1.heap.size := by omega
  clear hV
  go_wp2_with fail
  refine bodyPost_ret (v := .tuple #[.agg #[.int .i64 (eachM readA m).start, .slice A' (eachM readA m).states.length c'], .int .i64 0]) (by simp [results, Try.results30, go_sem, *]) rfl ⟨_, rfl, ?_, ?_⟩
  · exact ⟨_, rfl, vs, ((HV.out.setCell (a := ⟨w.heap.size + 1, 0, none⟩) (by simp) _).setCell (a := ⟨w.heap.size + 1, 1, none⟩) (by simp) _).mono (by simp; omega)⟩
  · exact (by repeat' (first | exact Below.refl _ _ | assumption | refine Below.step ?_ bel | refine Below.drew ?_ | refine Below.alloc ?_ (by first | omega | (simp; done) | (simp; omega)) _ | refine Below.setCell ?_ (by first | omega | (simp; done) | (simp; omega)) _))
end Go.Proofs.Ytphoioejhdjbaaa
