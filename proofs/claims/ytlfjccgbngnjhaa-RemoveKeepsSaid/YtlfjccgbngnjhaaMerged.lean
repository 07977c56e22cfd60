/- arrange.Merged. -/
import Derived.Test.YtlfjccgbngnjhaaCompact
import Derived.Test.YtlfjccgbngnjhaaArrange
namespace Go.Proofs.Ytlfjccgbngnjhaa
open Go.RowKit

theorem merged1_any (v : Value) (l : List ArcL) (B : Nat) (w : World) (ho : OwnArcs w B v l) (hb : ∀ a ∈ l, BndA a) (hl : l.length ≤ 400) (hB : B ≤ w.heap.size) :
    Calls Try.prog 29 #[v] w fun e w' => ∃ v', e = .returned v' ∧ OwnArcs w' B v' (mergeL l) ∧ Below B w w' := by
  have HS := Lib.hid (sort_box 24 read_key4 enter_read readKey_fn v l B w ho hl hB 80)
  have HC := Lib.hid (fun W (h : OwnArcs W B v (sortK readKy l)) (hb2 : Below B w W) => compact_own v (sortK readKy l) B W h (fun a ha => hb a ((sortK_mem readKy l a).1 ha)) (by rw [sortK_len]; exact hl) (Nat.le_trans hB hb2.size))
  clear ho hl hB hb
  have HM := Lib.hid (show compL (sortK readKy l) = mergeL l from rfl)
  generalize mergeL l = l2 at *
  go_enter Try.func29, Try.ntmps29
  go_wp2_with (first | (go_at_call 23; refine (by_mk _ _).mono ?_; rintro e w' ⟨rfl, rfl⟩) | (go_at_call 22; refine HS.out.mono ?_; rintro e w' ⟨rfl, ho, hb⟩; have HOB := Lib.hid (And.intro ho hb); clear ho hb) | (go_at_call 30; refine (HC.out _ HOB.out.1 HOB.out.2).mono ?_; rintro e w' ⟨v', rfl, ho, hb⟩))
  go_ret
  exact ⟨_, rfl, by rw [← HM.out]; exact ho, HOB.out.2.trans hb⟩
theorem enter_merged1 (x : Array Value) (W : World) : (callFunc 29 x).run Try.prog W = .ok (.enter 29 x) W := by simp [go_sem]
theorem bnd_of {m : MachL} (hv : Valid m) : ∀ s ∈ m.states, ∀ a ∈ s.arcs, BndA a := fun s hs a ha => by
  have h := (hv.st s hs).2 a ha
  have := hv.size; have := h.i0; have := h.i1; have := h.o0; have := h.o1; have := h.t0; have := h.t1
  unfold BndA; omega
set_option maxRecDepth 100000 in
theorem Merged_any (v : Value) (m : MachL) (w : World) (hm : MachAt w v m) (hv : Valid m) :
    Calls Try.prog 13 #[v] w fun e w' => ∃ mv, e = .returned (.tuple #[mv, .int .i64 0]) ∧ OwnMach w' w.heap.size mv (arrM mergeL m) ∧ Below w.heap.size w w' := by
  have HE := Lib.hid (fun W hb => with_any _ mergeL (fun l => ∀ a ∈ l, BndA a) enter_merged1 (fun x l B W ho hg hl hB => merged1_any x l B W ho hg hl hB) v m W (hm.below hb) hv (bnd_of hv))
  obtain ⟨A, c, rfl, hS⟩ := hm
  clear hS hv
  go_enter Try.func13, Try.ntmps13
  go_wp2_with fail
  refine (HE.out _ (by repeat' (first | exact Below.refl _ _ | assumption | refine Below.drew ?_ | refine Below.alloc ?_ (by first | omega | (simp; done) | (simp; omega)) _ | refine Below.setCell ?_ (by first | omega | (simp; done) | (simp; omega)) _))).mono ?_
  rintro e w1 ⟨mv, rfl, hO, bel⟩
  obtain ⟨sv, rfl, vs, hV⟩ := hO
  have HV := Lib.hid hV
  obtain ⟨A', c', rfl, -, -⟩ := hV.form
  obtain ⟨c1, f1⟩ := bcell bel; have z1 := bel.size; simp at z1
  have y1 : w.heap.size + 1 < w1.heap.size := by omega
  clear hV
  go_wp2_with fail
  refine bodyPost_ret (v := .tuple #[.agg #[.int .i64 (arrM mergeL m).start, .slice A' (arrM mergeL m).states.length c'], .int .i64 0]) (by simp [results, Try.results13, go_sem, *]) rfl ⟨_, rfl, ?_, ?_⟩
  · exact ⟨_, rfl, vs, ((HV.out.setCell (a := ⟨w.heap.size + 1, 0, none⟩) (by simp) _).setCell (a := ⟨w.heap.size + 1, 1, none⟩) (by simp) _).mono (by simp; omega)⟩
  · exact (by repeat' (first | exact Below.refl _ _ | assumption | refine Below.step ?_ bel | refine Below.drew ?_ | refine Below.alloc ?_ (by first | omega | (simp; done) | (simp; omega)) _ | refine Below.setCell ?_ (by first | omega | (simp; done) | (simp; omega)) _))
end Go.Proofs.Ytlfjccgbngnjhaa
