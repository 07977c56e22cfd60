/- rational's builder: hop, built, both. -/
import Derived.Test.YteniblkmokpjjaaBd
import Derived.Test.YteniblkmokpjjaaRegionLast
import Derived.Deep.RegionHeld3
import Derived.LoopTactic
namespace Go.Proofs.Yteniblkmokpjjaa
open Go.RowKit

set_option maxRecDepth 100000 in
set_option maxHeartbeats 8000000 in
theorem hop_any (b : Nat) (W : World) (st : Int) (sv : Value) (vs : List Value) (ss : List StateL) (h : BD b W st sv vs ss) (q : Nat) (hq : q < ss.length) (hn : ss.length ≤ 100000) (hl : ∀ s ∈ ss, s.arcs.length ≤ 100000) (tt wt : Int) :
    Calls Try.prog 44 #[.pointer (some ⟨b, 0, none⟩), .int .i64 q, .int .i64 tt, .int .i64 wt] W fun e w' => e = .returned (.tuple #[]) ∧ ∃ sv' vs', BD b w' st sv' vs' (addS ss (q, ⟨0, 0, wt, tt⟩)) ∧ BF b W w' := by
  obtain ⟨g, c, rfl, hbg, hg, hc⟩ := h.addr (by omega)
  have hqv : q < vs.length := by rw [h.own.len]; exact hq
  have H := Lib.hid h
  have hsl := hl _ (List.getElem_mem hq)
  obtain ⟨A2, c2, hv2, hc2, hc3⟩ := (h.own.arcs q hq hqv).form
  have hcell := (h.cell hq).1
  rw [hv2] at hcell
  have hown := h.own.arcs q hq hqv
  rw [hv2] at hown
  have hob := h.box.cell; have lob := h.box.lt
  have hfz := h.froz
  have nB : some b ≠ (Value.slice A2 ss[q].arcs.length c2).ownBlock := by rw [← hv2]; exact (h.arcs_ne hq hqv).symm
  have nG : some g ≠ (Value.slice A2 ss[q].arcs.length c2).ownBlock := by rw [← hv2]; exact (h.arcs_row hq hqv).symm
  have HV := Lib.hid hv2; have HOWN := Lib.hid hown
  have i0 : (0 : Int) ≤ ↑q := by omega
  have i1 : (↑q : Int) < ↑ss.length := by omega
  clear h hv2 hown hl
  generalize hse : ss[q] = s at *
  have HSE := Lib.hid hse
  clear hse
  have K8 : Hid (W.cell? ⟨b, 1, none⟩ = some (.slice (some ⟨g, 0, none⟩) ss.length c)) := Lib.hid (by simpa using hob 1)
  have K10 := Lib.hid hcell
  have HFZ := Lib.hid (hfz (q * 2 + 1))
  clear hob hcell hfz
  go_enter Try.func44, Try.ntmps44
  refine wp_region_noPanic ?_
  refine wp_region_last_drew (fun w' => w'.cell? ⟨b, 1, none⟩ = some (.slice (some ⟨g, 0, none⟩) ss.length c) ∧ w'.cell? ⟨g, q * 2 + 1, none⟩ = some (.slice A2 s.arcs.length c2)) (by kernel_rfl) (by simp only [List.back?_toArray, List.getLast?_cons_cons, List.getLast?_singleton]; rfl) (by simp only [List.pop_toArray, List.dropLast_cons_cons, List.dropLast_singleton]; rfl) (by kernel_rfl) ⟨K8.out, K10.out⟩ (fun hHeld => ?_)
  refine wpAnyH_take (i := 0) (v := ?v0) (by simp only [List.getElem?_toArray, List.getElem?_cons_zero]; rfl) (by kernel_rfl) (by kernel_rfl) (by kernel_rfl) (fun _ _ _ h => h) (Or.inl ⟨by rfl, ?h0⟩) hHeld ?r0
  case h0 => intro w hSw; (try dsimp only at hSw); go_simp; with_reducible rfl
  simp only [Act.put, List.setIfInBounds_toArray, List.set_cons_zero, List.set_cons_succ]
  refine wpAnyH_take (i := 1) (v := ?v1) (by simp only [List.getElem?_toArray, List.getElem?_cons_succ, List.getElem?_cons_zero]; rfl) (by kernel_rfl) (by kernel_rfl) (by kernel_rfl) (fun _ _ _ h => h) (Or.inl ⟨by rfl, ?h1⟩) hHeld ?r1
  case h1 => intro w hSw; (try dsimp only at hSw); go_simp; with_reducible rfl
  simp only [Act.put, List.setIfInBounds_toArray, List.set_cons_zero, List.set_cons_succ]
  refine wpAnyH_take (i := 2) (v := ?v2) (by simp only [List.getElem?_toArray, List.getElem?_cons_succ, List.getElem?_cons_zero]; rfl) (by kernel_rfl) (by kernel_rfl) (by kernel_rfl) (fun _ _ _ h => h) (Or.inl ⟨by rfl, ?h2⟩) hHeld ?r2
  case h2 => intro w hSw; (try dsimp only at hSw); go_simp; with_reducible rfl
  simp only [Act.put, List.setIfInBounds_toArray, List.set_cons_zero, List.set_cons_succ]
  refine wpAnyH_take (i := 3) (v := ?v3) (by simp only [List.getElem?_toArray, List.getElem?_cons_succ, List.getElem?_cons_zero]; rfl) (by kernel_rfl) (by kernel_rfl) (by kernel_rfl) (fun _ _ _ h => h) (Or.inl ⟨by rfl, ?h3⟩) hHeld ?r3
  case h3 => intro w hSw; (try dsimp only at hSw); go_simp; with_reducible rfl
  simp only [Act.put, List.setIfInBounds_toArray, List.set_cons_zero, List.set_cons_succ]
  refine wpAnyH_take (i := 4) (v := ?v4) (by simp only [List.getElem?_toArray, List.getElem?_cons_succ, List.getElem?_cons_zero]; rfl) (by kernel_rfl) (by kernel_rfl) (by kernel_rfl) (fun _ _ _ h => h) (Or.inl ⟨by rfl, ?h4⟩) hHeld ?r4
  case h4 => intro w hSw; (try dsimp only at hSw); go_simp; with_reducible rfl
  simp only [Act.put, List.setIfInBounds_toArray, List.set_cons_zero, List.set_cons_succ]
  refine wpAnyH_take (i := 5) (v := ?v5) (by simp only [List.getElem?_toArray, List.getElem?_cons_succ, List.getElem?_cons_zero]; rfl) (by kernel_rfl) (by kernel_rfl) (by kernel_rfl) (fun _ _ _ h => h) (Or.inl ⟨by rfl, ?h5⟩) hHeld ?r5
  case h5 => intro w hSw; (try dsimp only at hSw); go_simp; with_reducible rfl
  simp only [Act.put, List.setIfInBounds_toArray, List.set_cons_zero, List.set_cons_succ]
  refine wpAnyH_take (i := 6) (v := ?v6) (by simp only [List.getElem?_toArray, List.getElem?_cons_succ, List.getElem?_cons_zero]; rfl) (by kernel_rfl) (by kernel_rfl) (by kernel_rfl) (fun _ _ _ h => h) (Or.inl ⟨by rfl, ?h6⟩) hHeld ?r6
  case h6 => intro w hSw; (try dsimp only at hSw); go_simp; with_reducible rfl
  simp only [Act.put, List.setIfInBounds_toArray, List.set_cons_zero, List.set_cons_succ]
  refine wpAnyH_take (i := 7) (v := ?v7) (by simp only [List.getElem?_toArray, List.getElem?_cons_succ, List.getElem?_cons_zero]; rfl) (by kernel_rfl) (by kernel_rfl) (by kernel_rfl) (fun _ _ _ h => h) (Or.inl ⟨by rfl, ?h7⟩) hHeld ?r7
  case h7 => intro w hSw; (try dsimp only at hSw); go_simp; with_reducible rfl
  simp only [Act.put, List.setIfInBounds_toArray, List.set_cons_zero, List.set_cons_succ]
  refine wpAnyH_take (i := 8) (v := ?v8) (by simp only [List.getElem?_toArray, List.getElem?_cons_succ, List.getElem?_cons_zero]; rfl) (by kernel_rfl) (by kernel_rfl) (by kernel_rfl) (fun _ _ _ h => h) (Or.inl ⟨by rfl, ?h8⟩) hHeld ?r8
  case h8 => intro w hSw; (try dsimp only at hSw); go_simp; with_reducible rfl
  simp only [Act.put, List.setIfInBounds_toArray, List.set_cons_zero, List.set_cons_succ]
  refine wpAnyH_take (i := 9) (v := ?v9) (by simp only [List.getElem?_toArray, List.getElem?_cons_succ, List.getElem?_cons_zero]; rfl) (by kernel_rfl) (by kernel_rfl) (by kernel_rfl) (fun _ _ _ h => h) (Or.inl ⟨by rfl, ?h9⟩) hHeld ?r9
  case h9 => intro w hSw; (try dsimp only at hSw); go_simp; with_reducible rfl
  simp only [Act.put, List.setIfInBounds_toArray, List.set_cons_zero, List.set_cons_succ]
  refine wpAnyH_take (i := 10) (v := ?v10) (by simp only [List.getElem?_toArray, List.getElem?_cons_succ, List.getElem?_cons_zero]; rfl) (by kernel_rfl) (by kernel_rfl) (by kernel_rfl) (fun _ _ _ h => h) (Or.inl ⟨by rfl, ?h10⟩) hHeld ?r10
  case h10 => intro w hSw; (try dsimp only at hSw); go_simp; with_reducible rfl
  simp only [Act.put, List.setIfInBounds_toArray, List.set_cons_zero, List.set_cons_succ]
  refine wpAnyH_take (i := 11) (v := ?v11) (by simp only [List.getElem?_toArray, List.getElem?_cons_succ, List.getElem?_cons_zero]; rfl) (by kernel_rfl) (by kernel_rfl) (by kernel_rfl) (fun _ _ _ h => h) (Or.inl ⟨by rfl, ?h11⟩) hHeld ?r11
  case h11 => intro w hSw; (try dsimp only at hSw); go_simp; with_reducible rfl
  simp only [Act.put, List.setIfInBounds_toArray, List.set_cons_zero, List.set_cons_succ]
  refine wpAnyH_take (i := 12) (v := ?v12) (by simp only [List.getElem?_toArray, List.getElem?_cons_succ, List.getElem?_cons_zero]; rfl) (by kernel_rfl) (by kernel_rfl) (by kernel_rfl) (fun _ _ _ h => h) (Or.inl ⟨by rfl, ?h12⟩) hHeld ?r12
  case h12 => intro w hSw; (try dsimp only at hSw); go_simp; with_reducible rfl
  simp only [Act.put, List.setIfInBounds_toArray, List.set_cons_zero, List.set_cons_succ]
  refine wpAnyH_take (i := 13) (v := ?v13) (by simp only [List.getElem?_toArray, List.getElem?_cons_succ, List.getElem?_cons_zero]; rfl) (by kernel_rfl) (by kernel_rfl) (by kernel_rfl) (fun _ _ _ h => h) (Or.inl ⟨by rfl, ?h13⟩) hHeld ?r13
  case h13 => intro w hSw; (try dsimp only at hSw); go_simp; with_reducible rfl
  simp only [Act.put, List.setIfInBounds_toArray, List.set_cons_zero, List.set_cons_succ]
  refine wpAnyH_take (i := 14) (v := ?v14) (by simp only [List.getElem?_toArray, List.getElem?_cons_succ, List.getElem?_cons_zero]; rfl) (by kernel_rfl) (by kernel_rfl) (by kernel_rfl) (fun _ _ _ h => h) (Or.inl ⟨by rfl, ?h14⟩) hHeld ?r14
  case h14 => intro w hSw; (try dsimp only at hSw); go_simp; with_reducible rfl
  simp only [Act.put, List.setIfInBounds_toArray, List.set_cons_zero, List.set_cons_succ]
  refine wpAnyH_take (i := 15) (v := ?v15) (by simp only [List.getElem?_toArray, List.getElem?_cons_succ, List.getElem?_cons_zero]; rfl) (by kernel_rfl) (by kernel_rfl) (by kernel_rfl) (fun _ _ _ h => h) (Or.inl ⟨by rfl, ?h15⟩) hHeld ?r15
  case h15 => intro w hSw; (try dsimp only at hSw); go_simp; with_reducible rfl
  simp only [Act.put, List.setIfInBounds_toArray, List.set_cons_zero, List.set_cons_succ]
  refine wpAnyH_take (i := 16) (v := ?v16) (by simp only [List.getElem?_toArray, List.getElem?_cons_succ, List.getElem?_cons_zero]; rfl) (by kernel_rfl) (by kernel_rfl) (by kernel_rfl) (fun _ _ _ h => h) (Or.inl ⟨by rfl, ?h16⟩) hHeld ?r16
  case h16 => intro w hSw; (try dsimp only at hSw); go_simp; with_reducible rfl
  simp only [Act.put, List.setIfInBounds_toArray, List.set_cons_zero, List.set_cons_succ]
  refine wpAnyH_take (i := 17) (v := ?v17) (by simp only [List.getElem?_toArray, List.getElem?_cons_succ, List.getElem?_cons_zero]; rfl) (by kernel_rfl) (by kernel_rfl) (by kernel_rfl) (fun _ _ _ h => h) (Or.inl ⟨by rfl, ?h17⟩) hHeld ?r17
  case h17 => intro w hSw; (try dsimp only at hSw); go_simp; with_reducible rfl
  simp only [Act.put, List.setIfInBounds_toArray, List.set_cons_zero, List.set_cons_succ]
  refine wpAnyH_ready (rs := [18]) (by kernel_rfl) (by simp) (AllReadyH.cons (by simp only [List.getElem?_toArray, List.getElem?_cons_succ, List.getElem?_cons_zero]; rfl) (fun K hK => ?s9) AllReadyH.nil)
  go_simp
  refine hK.out _ _ ⟨cell_keep (w := W) (B := W.heap.size) (by repeat' (first | exact Below.refl _ _ | assumption | refine Below.drew ?_ | refine Below.alloc ?_ (by first | omega | (simp; done) | (simp; omega)) _ | refine Below.setCell ?_ (by first | omega | (simp; done) | (simp; omega)) _)) (Nat.le_refl _) K8.out, cell_keep (w := W) (B := W.heap.size) (by repeat' (first | exact Below.refl _ _ | assumption | refine Below.drew ?_ | refine Below.alloc ?_ (by first | omega | (simp; done) | (simp; omega)) _ | refine Below.setCell ?_ (by first | omega | (simp; done) | (simp; omega)) _)) (Nat.le_refl _) K10.out⟩ (fun hHeld => ?_)
  clear hK K
  refine wpAnyH_ready (rs := [19]) (by kernel_rfl) (by simp) (AllReadyH.cons (by simp only [List.getElem?_toArray, List.getElem?_cons_succ, List.getElem?_cons_zero]; rfl) (fun K hK => ?s10) AllReadyH.nil)
  refine step_app1 (by rfl) _ _ (by rfl) eltArc b (.slice A2 s.arcs.length c2) _ _ (by rfl) (HOWN.out.alloc _) W.heap.size #[.int .i64 0, .int .i64 0, .int .i64 wt, .int .i64 tt] (heap_alloc_new W _) (by rfl) (by rfl) (by simp [Value.oneCell']) (by omega) (by omega) (by simp; omega) ?_; intro g3 cap w8 ho8 hg8 hat8 hlt8; have z8 := hg8.cell hHeld.1 nB; have z10 := hg8.cell hHeld.2 nG
  refine hK.out _ _ ⟨z8, z10⟩ (fun hHeld => ?_)
  clear hK K
  simp only [Act.put, List.setIfInBounds_toArray, List.set_cons_zero, List.set_cons_succ]
  refine wpAnyH_take (i := 20) (v := ?v20) (by simp only [List.getElem?_toArray, List.getElem?_cons_succ, List.getElem?_cons_zero]; rfl) (by kernel_rfl) (by kernel_rfl) (by kernel_rfl) (fun _ _ _ h => h) (Or.inl ⟨by rfl, ?h20⟩) hHeld ?r20
  case h20 => intro w hSw; (try dsimp only at hSw); go_simp; with_reducible rfl
  simp only [Act.put, List.setIfInBounds_toArray, List.set_cons_zero, List.set_cons_succ]
  refine wpAnyH_take (i := 21) (v := ?v21) (by simp only [List.getElem?_toArray, List.getElem?_cons_succ, List.getElem?_cons_zero]; rfl) (by kernel_rfl) (by kernel_rfl) (by kernel_rfl) (fun _ _ _ h => h) (Or.inl ⟨by rfl, ?h21⟩) hHeld ?r21
  case h21 => intro w hSw; (try dsimp only at hSw); go_simp; with_reducible rfl
  simp only [Act.put, List.setIfInBounds_toArray, List.set_cons_zero, List.set_cons_succ]
  refine wpAnyH_done (by kernel_rfl) ?_ _
  show Oper.wp _ _ _ _ _ _
  have b7 : Below W.heap.size W (W.alloc (.cells #[.int .i64 0, .int .i64 0, .int .i64 wt, .int .i64 tt] 79)).drew := (by repeat' (first | exact Below.refl _ _ | assumption | refine Below.drew ?_ | refine Below.alloc ?_ (by first | omega | (simp; done) | (simp; omega)) _ | refine Below.setCell ?_ (by first | omega | (simp; done) | (simp; omega)) _))
  have hz1 : w8.frozen? ⟨g, q * 2 + 1, none⟩ = false := by
    rw [World.frozen?_of_block (hg8.block g (by simp; omega) nG)]
    exact frozB b7 K10.out HFZ.out
  have lg8 := World.block_lt_of_cell? _ _ z10
  go_simp
  refine NoPanic.normal ?_
  have hput : ∃ sv' vs', BD b (w8.setCell ⟨g, q * 2 + 1, none⟩ (.slice (some ⟨g3, 0, none⟩) (s.arcs.length + 1) cap)) st sv' vs' (addS ss (q, ⟨0, 0, wt, tt⟩)) ∧ BF b W (w8.setCell ⟨g, q * 2 + 1, none⟩ (.slice (some ⟨g3, 0, none⟩) (s.arcs.length + 1) cap)) := by
    have h8 := H.out.keep b7
    have e := HSE.out
    clear HSE
    subst e
    have := h8.add q hq ⟨0, 0, wt, tt⟩ rfl (by rw [HV.out]; exact hg8) ho8 (fun x hx => by
      rw [HV.out]
      simp only [Value.ownBlock, Option.some.injEq] at hx
      subst hx
      exact hat8.imp id (fun h => by omega))
    exact ⟨_, _, this.1, (BF.below b7 (by omega)).trans this.2⟩
  clear z8 z10 hz1
  have HPUT := Lib.hid hput
  clear hput
  go_end0
  obtain ⟨s', v', h1, h2⟩ := HPUT.out
  exact ⟨rfl, ⟨s', v', h1⟩, h2⟩

theorem BD.mach {b : Nat} {W : World} {st : Int} {sv : Value} {vs : List Value} {ss : List StateL} (h : BD b W st sv vs ss) : OwnMach W b (.agg #[.int .i64 st, sv]) ⟨st, ss⟩ := ⟨sv, rfl, vs, h.own⟩
set_option maxRecDepth 100000 in
set_option maxHeartbeats 2000000 in
theorem built_any (b : Nat) (W : World) (st : Int) (sv : Value) (vs : List Value) (ss : List StateL) (h : BD b W st sv vs ss) (hv : Valid ⟨st, ss⟩) :
    Calls Try.prog 45 #[.pointer (some ⟨b, 0, none⟩)] W fun e w' => ∃ mv, e = .returned (.tuple #[mv, .int .i64 0]) ∧ OwnMach w' b mv ⟨st, ss⟩ ∧ Below W.heap.size W w' := by
  have CH := Lib.hid (fun W' (hb : Below W.heap.size W W') => Check_ok (.agg #[.int .i64 st, sv]) ⟨st, ss⟩ W' (h.mach.at_.below hb) hv)
  have H := Lib.hid h
  obtain ⟨A, c, rfl, -⟩ := h.form
  have kb := h.box.cell; have lb := h.lt
  clear h
  go_enter Try.func45, Try.ntmps45
  go_wp2_with fail
  refine (CH.out _ (by repeat' (first | exact Below.refl _ _ | assumption | refine Below.drew ?_ | refine Below.alloc ?_ (by first | omega | (simp; done) | (simp; omega)) _ | refine Below.setCell ?_ (by first | omega | (simp; done) | (simp; omega)) _))).mono ?_; rintro e w1 ⟨rfl, bel⟩; obtain ⟨c1, f1⟩ := bcell bel; have z1 := bel.size; simp at z1; (try have y0 : w.heap.size < w1.heap.size := by omega); (try have y1 : w.heap.size + 1 < w1.heap.size := by omega); (try have y2 : w.heap.size + 1 + 1 < w1.heap.size := by omega); (try have y3 : w.heap.size + 1 + 1 + 1 < w1.heap.size := by omega); (try have y4 : w.heap.size + 1 + 1 + 1 + 1 < w1.heap.size := by omega); (try have y5 : w.heap.size + 1 + 1 + 1 + 1 + 1 < w1.heap.size := by omega); (try have y6 : w.heap.size + 1 + 1 + 1 + 1 + 1 + 1 < w1.heap.size := by omega)
  have kz := (H.out.keep (W' := w1) ((Below.alloc (Below.refl _ _) (Nat.le_refl _) (.cells #[.int .i64 0, .slice none 0 0] 27)).trans (bel.mono (by simp)))).box.cell
  have bz : Below W.heap.size W w1 := (Below.alloc (Below.refl _ _) (Nat.le_refl _) (.cells #[.int .i64 0, .slice none 0 0] 27)).trans (bel.mono (by simp))
  go_wp2_with fail
  refine bodyPost_ret (v := .tuple #[.agg #[.int .i64 st, .slice A ss.length c], .int .i64 0]) (by simp [results, Try.results45, go_sem, *]) rfl ⟨_, rfl, ⟨_, rfl, vs, ?_⟩, ?_⟩
  · have h2 := H.out.keep bz
    have e1 : (Value.slice A ss.length c).ownBlock ≠ some W.heap.size := own_lt H.out.own.row (Nat.le_refl _)
    have e2 := fun i hi hi' => own_lt (H.out.own.arcs i hi hi') (Nat.le_refl W.heap.size)
    exact ⟨h2.own.len, own_setCell (own_setCell h2.own.row (by simpa using e1) _) (by simpa using e1) _, fun i hi hi' => ((h2.own.arcs i hi hi').setCell (by simpa using e2 i hi hi') _).setCell (by simpa using e2 i hi hi') _⟩
  · exact (bz.setCell (by simp) _).setCell (by simp) _
end Go.Proofs.Yteniblkmokpjjaa
