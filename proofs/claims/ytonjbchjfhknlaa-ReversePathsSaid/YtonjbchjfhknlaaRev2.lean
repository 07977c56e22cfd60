/- turn.Reverse: the closure that puts an arc to a state. -/
import Derived.Test.YtonjbchjfhknlaaRev
import Derived.Test.YtonjbchjfhknlaaRegionLast
import Derived.Test.YtonjbchjfhknlaaMake
import Derived.Deep.RegionHeld3
import Derived.LoopTactic
import Derived.Deep.DeepCutAuto
namespace Go.Proofs.Ytonjbchjfhknlaa
open Go.RowKit

/-- Reverse's own memory: states at w1's end, the machine's box behind them -/
structure RvW (w1 W : World) (n : Nat) (vs : List Value) (ss : List StateL) : Prop where
  st : StG W w1.heap.size w1.heap.size n vs ss
  ob : Blk W (w1.heap.size + 1) #[.int .i64 0, .slice (some ⟨w1.heap.size, 0, none⟩) n n] 27
  bel : Below w1.heap.size w1 W

section
variable {w1 W W' : World} {n : Nat} {vs : List Value} {ss : List StateL}
theorem RvW.keep (h : RvW w1 W n vs ss) (hb : Below W.heap.size W W') : RvW w1 W' n vs ss := ⟨h.st.keep hb, h.ob.step hb, h.bel.trans (hb.mono h.bel.size)⟩
theorem RvW.setFinal (h : RvW w1 W n vs ss) (q : Nat) (hq : q < ss.length) (f : Int) : RvW w1 (W.setCell ⟨w1.heap.size, q * 2, none⟩ (.int .i64 f)) n vs (ss.set q ⟨f, ss[q].arcs⟩) :=
  ⟨h.st.setFinal q hq f, h.ob.far (by simp) _, h.bel.setCell (by simp) _⟩
theorem RvW.add (h : RvW w1 W n vs ss) (q : Nat) (hq : q < ss.length) (a : ArcL) {v' : Value} {k : Nat} (hk : k = ss[q].arcs.length + 1) (hg : W.grownBy W' (vs[q]'(by rw [h.st.st.len]; exact hq)).ownBlock)
    (hx : W'.ownsRow w1.heap.size 78 4 v' k (arcsCells ss[q].arcs ++ arcCells a)) (hat : ∀ b, v'.ownBlock = some b → (vs[q]'(by rw [h.st.st.len]; exact hq)).ownBlock = some b ∨ W.heap.size ≤ b) :
    RvW w1 (W'.setCell ⟨w1.heap.size, q * 2 + 1, none⟩ v') n (vs.set q v') (addS ss (q, a)) := by
  have hqv : q < vs.length := by rw [h.st.st.len]; exact hq
  have hown := h.st.st.arcs q hq hqv
  refine ⟨h.st.add q hq a hk hg hx hat, (h.ob.grown hg (own_blk_ne hown h.ob (by decide)).symm).far (by simp) _, ?_⟩
  exact (h.bel.grown hg h.bel.size (fun b hb => (hown.lt b hb).1)).setCell (by simp) _
end

set_option maxRecDepth 100000 in
set_option maxHeartbeats 8000000 in
theorem add_any (w1 W : World) (n : Nat) (vs : List Value) (ss : List StateL) (h : RvW w1 W n vs ss) (q : Nat) (hq : q < n) (hn : n ≤ 1000) (a : ArcL) (hl : ∀ s ∈ ss, s.arcs.length ≤ 1000) :
    Calls Try.prog 44 #[.int .i64 q, .agg #[.int .i64 a.inn, .int .i64 a.out, .int .i64 a.wt, .int .i64 a.to], .pointer (some ⟨w1.heap.size + 1, 0, none⟩)] W fun e w' => e = .returned (.tuple #[]) ∧ (∃ vs', RvW w1 w' n vs' (addS ss (q, a))) ∧ (∀ b cs t, Blk W b cs t → 78 ≠ t → b ≠ w1.heap.size → Blk w' b cs t) := by
  have H := Lib.hid h
  have hsl := h.st.len
  have hqs : q < ss.length := by omega
  have hqv : q < vs.length := by rw [h.st.st.len]; exact hqs
  have hsl2 := hl _ (List.getElem_mem hqs)
  obtain ⟨A2, c2, hv2, hc2, hc3⟩ := (h.st.st.arcs q hqs hqv).form
  have hcell := (h.st.cell hqs).1
  rw [hv2] at hcell
  have hown := h.st.st.arcs q hqs hqv
  rw [hv2] at hown
  have hob := h.ob.cell; have lob := h.ob.lt
  have ⟨_, lg⟩ := h.st.lt (by omega)
  have hfz := fun o => h.st.froz o (by omega)
  have hb := h.bel.size
  have HV := Lib.hid hv2; have HOWN := Lib.hid hown
  have HSL := Lib.hid hsl
  have hnn : n ≤ 9223372036854775807 := by omega
  have i0 : (0 : Int) ≤ ↑q := by omega
  have i1 : (↑q : Int) < ↑n := by omega
  clear h hv2 hown hsl hl
  generalize hse : ss[q] = s at *
  have HSE := Lib.hid hse
  clear hse
  go_enter Try.func44, Try.ntmps44
  have c7 := cell_keep ((Below.refl _ _).alloc (Nat.le_refl _) (.cells #[.int .i64 a.inn, .int .i64 a.out, .int .i64 a.wt, .int .i64 a.to] 78)) (Nat.le_refl _) hcell
  have H7 := Lib.hid (H.out.keep ((Below.refl _ _).alloc (Nat.le_refl _) (.cells #[.int .i64 a.inn, .int .i64 a.out, .int .i64 a.wt, .int .i64 a.to] 78)))
  have O7 := Lib.hid (own_below HOWN.out ((Below.refl _ _).alloc (Nat.le_refl _) (.cells #[.int .i64 a.inn, .int .i64 a.out, .int .i64 a.wt, .int .i64 a.to] 78)) (Nat.le_refl _))
  have A7 : Blk (W.alloc (.cells #[.int .i64 a.inn, .int .i64 a.out, .int .i64 a.wt, .int .i64 a.to] 78)) W.heap.size #[.int .i64 a.inn, .int .i64 a.out, .int .i64 a.wt, .int .i64 a.to] 78 := Blk.new _ _ _
  have HB7 : Hid (∀ b cs t, Blk W b cs t → Blk (W.alloc (.cells #[.int .i64 a.inn, .int .i64 a.out, .int .i64 a.wt, .int .i64 a.to] 78)) b cs t) := Lib.hid (fun b cs t h => h.alloc _)
  go_upto_region 1 with fail
  generalize W.alloc (.cells #[.int .i64 a.inn, .int .i64 a.out, .int .i64 a.wt, .int .i64 a.to] 78) = w7 at *
  have k7 := A7.cell; have l7 := A7.lt
  have lG7 := World.block_lt_of_cell? _ _ c7
  clear hcell hob lob hfz
  have hob := H7.out.ob.cell
  have K0 : Hid (w7.cell? ⟨W.heap.size, 0, none⟩ = some (.int .i64 a.inn)) := Lib.hid (by simpa using k7 0)
  have K1 : Hid (w7.cell? ⟨W.heap.size, 1, none⟩ = some (.int .i64 a.out)) := Lib.hid (by simpa using k7 1)
  have K2 : Hid (w7.cell? ⟨W.heap.size, 2, none⟩ = some (.int .i64 a.wt)) := Lib.hid (by simpa using k7 2)
  have K3 : Hid (w7.cell? ⟨W.heap.size, 3, none⟩ = some (.int .i64 a.to)) := Lib.hid (by simpa using k7 3)
  have K8 : Hid (w7.cell? ⟨w1.heap.size + 1, 1, none⟩ = some (.slice (some ⟨w1.heap.size, 0, none⟩) n n)) := Lib.hid (by simpa using hob 1)
  have K10 := Lib.hid c7
  clear hob k7
  refine wp_region_noPanic ?_
  refine wp_region_last_drew (fun w' => w'.cell? ⟨w1.heap.size + 1, 1, none⟩ = some (.slice (some ⟨w1.heap.size, 0, none⟩) n n) ∧ w'.cell? ⟨w1.heap.size, q * 2 + 1, none⟩ = some (.slice A2 s.arcs.length c2) ∧ w'.cell? ⟨W.heap.size, 0, none⟩ = some (.int .i64 a.inn) ∧ w'.cell? ⟨W.heap.size, 1, none⟩ = some (.int .i64 a.out) ∧ w'.cell? ⟨W.heap.size, 2, none⟩ = some (.int .i64 a.wt) ∧ w'.cell? ⟨W.heap.size, 3, none⟩ = some (.int .i64 a.to)) (by kernel_rfl) (by simp only [List.back?_toArray, List.getLast?_cons_cons, List.getLast?_singleton]; rfl) (by simp only [List.pop_toArray, List.dropLast_cons_cons, List.dropLast_singleton]; rfl) (by kernel_rfl) ⟨K8.out, K10.out, K0.out, K1.out, K2.out, K3.out⟩ (fun hHeld => ?_)
  refine wpAnyH_take (i := 0) (v := ?v0) (by simp only [List.getElem?_toArray, List.getElem?_cons_zero]; rfl) (by kernel_rfl) (by kernel_rfl) (by kernel_rfl) (fun _ _ _ h => h) (Or.inl ⟨by rfl, ?h0⟩) hHeld ?r0
  case h0 => intro w hSw; (try dsimp only at hSw); go_simp; with_reducible rfl
  simp only [Act.put, List.setIfInBounds_toArray, List.set_cons_zero, List.set_cons_succ]
  refine wpAnyH_take (i := 1) (v := ?v1) (by simp only [List.getElem?_toArray, List.getElem?_cons_succ, List.getElem?_cons_zero]; rfl) (by kernel_rfl) (by kernel_rfl) (by kernel_rfl) (fun _ _ _ h => h) (Or.inl ⟨by rfl, ?h1⟩) hHeld ?r1
  case h1 => intro w hSw; (try dsimp only at hSw); go_simp; with_reducible rfl
  simp only [Act.put, List.setIfInBounds_toArray, List.set_cons_zero, List.set_cons_succ]
  refine wpAnyH_take (i := 2) (v := ?v2) (by simp only [List.getElem?_toArray, List.getElem?_cons_succ, List.getElem?_cons_zero]; rfl) (by kernel_rfl) (by kernel_rfl) (by kernel_rfl) (fun _ _ _ h => h) (Or.inl ⟨by rfl, ?h2⟩) hHeld ?r2
  case h2 => intro w hSw; (try dsimp only at hSw); go_simp; with_reducible rfl
  simp only [Act.put, List.setIfInBounds_toArray, List.set_cons_zero, List.set_cons_succ]
  refine wpAnyH_take (i := 3) (v := ?v3) (by simp only [List.getElem?_toArray, List.getElem?_cons_succ, List.getElem?_cons_zero]; rfl) (by kernel_rfl) (by kernel_rfl) (by kernel_rfl) (fun _ _ _ h => h) (Or.inl ⟨by rfl, ?h3⟩) hHeld ?r3
  case h3 => intro w hSw; (try dsimp only at hSw); go_simp; with_reducible rfl
  simp only [Act.put, List.setIfInBounds_toArray, List.set_cons_zero, List.set_cons_succ]
  refine wpAnyH_take (i := 4) (v := ?v4) (by simp only [List.getElem?_toArray, List.getElem?_cons_succ, List.getElem?_cons_zero]; rfl) (by kernel_rfl) (by kernel_rfl) (by kernel_rfl) (fun _ _ _ h => h) (Or.inl ⟨by rfl, ?h4⟩) hHeld ?r4
  case h4 => intro w hSw; (try dsimp only at hSw); go_simp; with_reducible rfl
  simp only [Act.put, List.setIfInBounds_toArray, List.set_cons_zero, List.set_cons_succ]
  refine wpAnyH_take (i := 5) (v := ?v5) (by simp only [List.getElem?_toArray, List.getElem?_cons_succ, List.getElem?_cons_zero]; rfl) (by kernel_rfl) (by kernel_rfl) (by kernel_rfl) (fun _ _ _ h => h) (Or.inl ⟨by rfl, ?h5⟩) hHeld ?r5
  case h5 => intro w hSw; (try dsimp only at hSw); go_simp; with_reducible rfl
  simp only [Act.put, List.setIfInBounds_toArray, List.set_cons_zero, List.set_cons_succ]
  refine wpAnyH_take (i := 6) (v := ?v6) (by simp only [List.getElem?_toArray, List.getElem?_cons_succ, List.getElem?_cons_zero]; rfl) (by kernel_rfl) (by kernel_rfl) (by kernel_rfl) (fun _ _ _ h => h) (Or.inl ⟨by rfl, ?h6⟩) hHeld ?r6
  case h6 => intro w hSw; (try dsimp only at hSw); go_simp; with_reducible rfl
  simp only [Act.put, List.setIfInBounds_toArray, List.set_cons_zero, List.set_cons_succ]
  refine wpAnyH_take (i := 7) (v := ?v7) (by simp only [List.getElem?_toArray, List.getElem?_cons_succ, List.getElem?_cons_zero]; rfl) (by kernel_rfl) (by kernel_rfl) (by kernel_rfl) (fun _ _ _ h => h) (Or.inl ⟨by rfl, ?h7⟩) hHeld ?r7
  case h7 => intro w hSw; (try dsimp only at hSw); go_simp; with_reducible rfl
  simp only [Act.put, List.setIfInBounds_toArray, List.set_cons_zero, List.set_cons_succ]
  refine wpAnyH_take (i := 8) (v := ?v8) (by simp only [List.getElem?_toArray, List.getElem?_cons_succ, List.getElem?_cons_zero]; rfl) (by kernel_rfl) (by kernel_rfl) (by kernel_rfl) (fun _ _ _ h => h) (Or.inl ⟨by rfl, ?h8⟩) hHeld ?r8
  case h8 => intro w hSw; (try dsimp only at hSw); go_simp; with_reducible rfl
  simp only [Act.put, List.setIfInBounds_toArray, List.set_cons_zero, List.set_cons_succ]
  refine wpAnyH_take (i := 9) (v := ?v9) (by simp only [List.getElem?_toArray, List.getElem?_cons_succ, List.getElem?_cons_zero]; rfl) (by kernel_rfl) (by kernel_rfl) (by kernel_rfl) (fun _ _ _ h => h) (Or.inl ⟨by rfl, ?h9⟩) hHeld ?r9
  case h9 => intro w hSw; (try dsimp only at hSw); go_simp; with_reducible rfl
  simp only [Act.put, List.setIfInBounds_toArray, List.set_cons_zero, List.set_cons_succ]
  refine wpAnyH_ready (rs := [10]) (by kernel_rfl) (by simp) (AllReadyH.cons (by simp only [List.getElem?_toArray, List.getElem?_cons_succ, List.getElem?_cons_zero]; rfl) (fun K hK => ?s9) AllReadyH.nil)
  go_simp
  refine hK.out _ _ ⟨cell_keep (by repeat' (first | exact Below.refl _ _ | assumption | refine Below.drew ?_ | refine Below.alloc ?_ (by first | omega | (simp; done) | (simp; omega)) _ | refine Below.setCell ?_ (by first | omega | (simp; done) | (simp; omega)) _)) (Nat.le_refl _) K8.out, cell_keep (by repeat' (first | exact Below.refl _ _ | assumption | refine Below.drew ?_ | refine Below.alloc ?_ (by first | omega | (simp; done) | (simp; omega)) _ | refine Below.setCell ?_ (by first | omega | (simp; done) | (simp; omega)) _)) (Nat.le_refl _) K10.out, cell_keep (by repeat' (first | exact Below.refl _ _ | assumption | refine Below.drew ?_ | refine Below.alloc ?_ (by first | omega | (simp; done) | (simp; omega)) _ | refine Below.setCell ?_ (by first | omega | (simp; done) | (simp; omega)) _)) (Nat.le_refl _) K0.out, cell_keep (by repeat' (first | exact Below.refl _ _ | assumption | refine Below.drew ?_ | refine Below.alloc ?_ (by first | omega | (simp; done) | (simp; omega)) _ | refine Below.setCell ?_ (by first | omega | (simp; done) | (simp; omega)) _)) (Nat.le_refl _) K1.out, cell_keep (by repeat' (first | exact Below.refl _ _ | assumption | refine Below.drew ?_ | refine Below.alloc ?_ (by first | omega | (simp; done) | (simp; omega)) _ | refine Below.setCell ?_ (by first | omega | (simp; done) | (simp; omega)) _)) (Nat.le_refl _) K2.out, cell_keep (by repeat' (first | exact Below.refl _ _ | assumption | refine Below.drew ?_ | refine Below.alloc ?_ (by first | omega | (simp; done) | (simp; omega)) _ | refine Below.setCell ?_ (by first | omega | (simp; done) | (simp; omega)) _)) (Nat.le_refl _) K3.out⟩ (fun hHeld => ?_)
  clear hK K
  have hbl : ∀ b, (Value.slice A2 s.arcs.length c2).ownBlock = some b → b < W.heap.size := fun b hb => (HOWN.out.lt b hb).2
  have nW : some W.heap.size ≠ (Value.slice A2 s.arcs.length c2).ownBlock := fun e => by have := hbl _ e.symm; omega
  have nO : some (w1.heap.size + 1) ≠ (Value.slice A2 s.arcs.length c2).ownBlock := (own_blk_ne HOWN.out H.out.ob (by decide)).symm
  have nG : some w1.heap.size ≠ (Value.slice A2 s.arcs.length c2).ownBlock := by have := H.out.st.arcs_ne hqs; rw [HV.out] at this; exact this.symm
  refine wpAnyH_ready (rs := [11]) (by kernel_rfl) (by simp) (AllReadyH.cons (by simp only [List.getElem?_toArray, List.getElem?_cons_succ, List.getElem?_cons_zero]; rfl) (fun K hK => ?s10) AllReadyH.nil)
  refine step_app1 (by rfl) _ _ (by rfl) eltArc w1.heap.size (.slice A2 s.arcs.length c2) _ _ (by rfl) (O7.out.alloc _) w7.heap.size #[.int .i64 a.inn, .int .i64 a.out, .int .i64 a.wt, .int .i64 a.to] (heap_alloc_new w7 _) (by rfl) (by rfl) (by simp [Value.oneCell']) (by omega) (by omega) (by simp; omega) ?_; intro g3 cap w8 ho8 hg8 hat8 hlt8; have z0 := hg8.cell (cell_keep (by repeat' (first | exact Below.refl _ _ | assumption | refine Below.drew ?_ | refine Below.alloc ?_ (by first | omega | (simp; done) | (simp; omega)) _ | refine Below.setCell ?_ (by first | omega | (simp; done) | (simp; omega)) _)) (Nat.le_refl _) K0.out) nW; have z1 := hg8.cell (cell_keep (by repeat' (first | exact Below.refl _ _ | assumption | refine Below.drew ?_ | refine Below.alloc ?_ (by first | omega | (simp; done) | (simp; omega)) _ | refine Below.setCell ?_ (by first | omega | (simp; done) | (simp; omega)) _)) (Nat.le_refl _) K1.out) nW; have z2 := hg8.cell (cell_keep (by repeat' (first | exact Below.refl _ _ | assumption | refine Below.drew ?_ | refine Below.alloc ?_ (by first | omega | (simp; done) | (simp; omega)) _ | refine Below.setCell ?_ (by first | omega | (simp; done) | (simp; omega)) _)) (Nat.le_refl _) K2.out) nW; have z3 := hg8.cell (cell_keep (by repeat' (first | exact Below.refl _ _ | assumption | refine Below.drew ?_ | refine Below.alloc ?_ (by first | omega | (simp; done) | (simp; omega)) _ | refine Below.setCell ?_ (by first | omega | (simp; done) | (simp; omega)) _)) (Nat.le_refl _) K3.out) nW; have z8 := hg8.cell (cell_keep (by repeat' (first | exact Below.refl _ _ | assumption | refine Below.drew ?_ | refine Below.alloc ?_ (by first | omega | (simp; done) | (simp; omega)) _ | refine Below.setCell ?_ (by first | omega | (simp; done) | (simp; omega)) _)) (Nat.le_refl _) K8.out) nO; have z10 := hg8.cell (cell_keep (by repeat' (first | exact Below.refl _ _ | assumption | refine Below.drew ?_ | refine Below.alloc ?_ (by first | omega | (simp; done) | (simp; omega)) _ | refine Below.setCell ?_ (by first | omega | (simp; done) | (simp; omega)) _)) (Nat.le_refl _) K10.out) nG
  refine hK.out _ _ ⟨z8, z10, z0, z1, z2, z3⟩ (fun hHeld => ?_)
  clear hK K
  simp only [Act.put, List.setIfInBounds_toArray, List.set_cons_zero, List.set_cons_succ]
  refine wpAnyH_take (i := 12) (v := ?v12) (by simp only [List.getElem?_toArray, List.getElem?_cons_succ, List.getElem?_cons_zero]; rfl) (by kernel_rfl) (by kernel_rfl) (by kernel_rfl) (fun _ _ _ h => h) (Or.inl ⟨by rfl, ?h12⟩) hHeld ?r12
  case h12 => intro w hSw; (try dsimp only at hSw); go_simp; with_reducible rfl
  simp only [Act.put, List.setIfInBounds_toArray, List.set_cons_zero, List.set_cons_succ]
  refine wpAnyH_take (i := 13) (v := ?v13) (by simp only [List.getElem?_toArray, List.getElem?_cons_succ, List.getElem?_cons_zero]; rfl) (by kernel_rfl) (by kernel_rfl) (by kernel_rfl) (fun _ _ _ h => h) (Or.inl ⟨by rfl, ?h13⟩) hHeld ?r13
  case h13 => intro w hSw; (try dsimp only at hSw); go_simp; with_reducible rfl
  simp only [Act.put, List.setIfInBounds_toArray, List.set_cons_zero, List.set_cons_succ]
  refine wpAnyH_done (by kernel_rfl) ?_ _
  show Oper.wp _ _ _ _ _ _
  have hz1 : w8.frozen? ⟨w1.heap.size, q * 2 + 1, none⟩ = false := by
    rw [World.frozen?_of_block (hg8.block w1.heap.size (by simp; omega) nG)]
    have := (H7.out.keep (W' := (w7.alloc (.cells #[.int .i64 a.inn, .int .i64 a.out, .int .i64 a.wt, .int .i64 a.to] 78)).drew) (by repeat' (first | exact Below.refl _ _ | assumption | refine Below.drew ?_ | refine Below.alloc ?_ (by first | omega | (simp; done) | (simp; omega)) _ | refine Below.setCell ?_ (by first | omega | (simp; done) | (simp; omega)) _))).st.froz (q * 2 + 1) (by omega)
    exact this
  have lg8 := World.block_lt_of_cell? _ _ z10
  go_simp
  refine NoPanic.normal ?_
  have hput : ∃ vs2, RvW w1 (w8.setCell ⟨w1.heap.size, q * 2 + 1, none⟩ (.slice (some ⟨g3, 0, none⟩) (s.arcs.length + 1) cap)) n vs2 (addS ss (q, a)) := by
    have h8 : RvW w1 (w7.alloc (.cells #[.int .i64 a.inn, .int .i64 a.out, .int .i64 a.wt, .int .i64 a.to] 78)).drew n vs ss := H7.out.keep (by repeat' (first | exact Below.refl _ _ | assumption | refine Below.drew ?_ | refine Below.alloc ?_ (by first | omega | (simp; done) | (simp; omega)) _ | refine Below.setCell ?_ (by first | omega | (simp; done) | (simp; omega)) _))
    have e := HSE.out
    clear HSE
    subst e
    refine ⟨_, h8.add q hqs a rfl (by rw [HV.out]; exact hg8) ho8 (fun b hb => ?_)⟩
    rw [HV.out]
    simp only [Value.ownBlock, Option.some.injEq] at hb
    subst hb
    exact hat8.imp id (fun h => by omega)
  have hfar : ∀ b cs t, Blk W b cs t → 78 ≠ t → b ≠ w1.heap.size → Blk (w8.setCell ⟨w1.heap.size, q * 2 + 1, none⟩ (.slice (some ⟨g3, 0, none⟩) (s.arcs.length + 1) cap)) b cs t := by
    intro b cs t hB ht hne
    have h7 := HB7.out b cs t hB
    refine Blk.far (Blk.grown (h7.step (by repeat' (first | exact Below.refl _ _ | assumption | refine Below.drew ?_ | refine Below.alloc ?_ (by first | omega | (simp; done) | (simp; omega)) _ | refine Below.setCell ?_ (by first | omega | (simp; done) | (simp; omega)) _))) hg8 (own_blk_ne HOWN.out hB ht).symm) (by simpa using hne) _
  have HFAR := Lib.hid hfar
  clear z0 z1 z2 z3 z8 z10 hz1 hfar
  have HPUT := Lib.hid hput
  clear hput
  go_end0
  exact ⟨rfl, HPUT.out, HFAR.out⟩
end Go.Proofs.Ytonjbchjfhknlaa
