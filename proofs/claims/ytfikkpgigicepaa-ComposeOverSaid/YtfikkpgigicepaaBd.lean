/- rational's builder: what it holds, what keeps it. -/
/- rational's builder: hop, built, both. -/
/- rational's builder: add. -/
/- rational's builder: loose; both. -/
import Derived.Test.YtfikkpgigicepaaRev
import Derived.Test.YtfikkpgigicepaaRegionLast
import Derived.Deep.RegionHeld3
import Derived.LoopTactic
import Derived.Deep.DeepCutAuto
import Derived.Deep.CutBlock
import Derived.IntWalk
namespace Go.Proofs.Ytfikkpgigicepaa
open Go.RowKit

/-- builder's box b: a machine's start and its row of states, of the call's own from b on; no row of arcs is another one's -/
structure BD (b : Nat) (W : World) (st : Int) (sv : Value) (vs : List Value) (ss : List StateL) : Prop where
  box : Blk W b #[.int .i64 st, sv] 100
  own : OwnStV W b sv vs ss
  apart : ∀ i j (hi : i < vs.length) (hj : j < vs.length), i ≠ j → Apart vs[i] vs[j]
/-- what a call on the builder leaves as it was -/
structure BF (b : Nat) (W W' : World) : Prop where
  bel : Below b W W'
  far : ∀ k cs t, Blk W k cs t → t ≠ 44 → t ≠ 40 → t ≠ 100 → Blk W' k cs t
section
variable {b : Nat} {W W' W2 : World} {st : Int} {sv : Value} {vs : List Value} {ss : List StateL}
theorem BF.refl (b : Nat) (W : World) : BF b W W := ⟨Below.refl _ _, fun _ _ _ h _ _ _ => h⟩
theorem BF.trans (h : BF b W W') (k : BF b W' W2) : BF b W W2 := ⟨h.bel.trans k.bel, fun k' cs t hB h1 h2 h3 => k.far k' cs t (h.far k' cs t hB h1 h2 h3) h1 h2 h3⟩
theorem BF.below (hb : Below W.heap.size W W') (hs : b ≤ W.heap.size) : BF b W W' := ⟨hb.mono hs, fun _ _ _ hB _ _ _ => hB.step hb⟩
theorem BD.keep (h : BD b W st sv vs ss) (hb : Below W.heap.size W W') : BD b W' st sv vs ss := ⟨h.box.step hb, h.own.below hb (Nat.le_refl _), h.apart⟩
theorem BD.lt (h : BD b W st sv vs ss) : b < W.heap.size := h.box.lt
theorem BD.form (h : BD b W st sv vs ss) : ∃ A c, sv = .slice A ss.length c ∧ ss.length ≤ c ∧ c ≤ maxLen := own_form h.own.row
theorem BD.row_ne (h : BD b W st sv vs ss) : sv.ownBlock ≠ some b := own_blk_ne h.own.row h.box (by decide)
theorem BD.arcs_ne (h : BD b W st sv vs ss) {i : Nat} (hi : i < ss.length) (hi' : i < vs.length) : vs[i].ownBlock ≠ some b := own_blk_ne (h.own.arcs i hi hi') h.box (by decide)
theorem BD.arcs_lt (h : BD b W st sv vs ss) {i : Nat} (hi : i < vs.length) {k : Nat} (hk : vs[i].ownBlock = some k) : b ≤ k ∧ k < W.heap.size := (h.own.arcs i (by rw [← h.own.len]; exact hi) hi).lt k hk
/-- a state is put behind -/
theorem BD.app (h : BD b W st sv vs ss) (s : StateL) {av : Value} (ha : OwnArcs W b av s.arcs) (hap : ∀ i (hi : i < vs.length), Apart vs[i] av)
    {v' : Value} {k : Nat} (hk : k = ss.length + 1) (hg : W.grownBy W' sv.ownBlock) (hx : W'.ownsRow b 40 2 v' k (statesCells ((ss.map (·.final)).zip vs) ++ [.int .i64 s.final, av])) :
    BD b (W'.setCell ⟨b, 1, none⟩ v') st v' (vs ++ [av]) (ss ++ [s]) ∧ BF b W (W'.setCell ⟨b, 1, none⟩ v') := by
  have ho : OwnStV W' b v' (vs ++ [av]) (ss ++ [s]) := h.own.app s ha hg hk hx
  have hbx : Blk W' b #[.int .i64 st, sv] 100 := h.box.grown hg h.row_ne.symm
  have hvb : v'.ownBlock ≠ some b := own_blk_ne ho.row hbx (by decide)
  refine ⟨⟨(hbx.put 1 _).eq (by simp), ?_, fun i j hi hj hij => ?_⟩, ?_, fun k cs t hB h1 h2 h3 => ?_⟩
  · refine ⟨ho.len, own_setCell ho.row (by simpa using hvb) _, fun i hi hi' => ?_⟩
    have := ho.arcs i hi hi'
    exact this.setCell (by simpa using own_blk_ne this hbx (by decide)) _
  · simp only [List.length_append, List.length_singleton] at hi hj
    by_cases e1 : i < vs.length
    · rw [List.getElem_append_left e1]
      by_cases e2 : j < vs.length
      · rw [List.getElem_append_left e2]; exact h.apart i j e1 e2 hij
      · rw [List.getElem_append_right (by omega)]; simpa using hap i e1
    · rw [List.getElem_append_right (by omega)]
      have : j < vs.length := by omega
      rw [List.getElem_append_left this]
      simpa using (hap j this).symm
  · have hbl := h.box.lt
    have hrow := h.own.row
    exact ((Below.refl b W).grown hg (by omega) (fun k hk => (hrow.lt k hk).1)).setCell (by simp) _
  · refine (hB.grown hg (own_blk_ne h.own.row hB (fun e => h2 e.symm)).symm).far (fun e => ?_) _
    simp only at e; subst e
    have := h.box; unfold Blk at this hB; rw [this] at hB; simp at hB; exact h3 hB.2.symm
/-- where the states lie -/
theorem BD.addr (h : BD b W st sv vs ss) (h0 : 0 < ss.length) : ∃ g c, sv = .slice (some ⟨g, 0, none⟩) ss.length c ∧ b ≤ g ∧ g < W.heap.size ∧ c ≤ maxLen := by
  rcases h.own.row.2 with ⟨_, e⟩ | ⟨g, cap, cur, rfl, hb, hg, _, hm, _⟩
  · omega
  · exact ⟨g, cap, rfl, hb, (Array.getElem?_eq_some_iff.1 hg).1, hm⟩
theorem BD.cell {g c : Nat} (h : BD b W st (.slice (some ⟨g, 0, none⟩) ss.length c) vs ss) {q : Nat} (hq : q < ss.length) : W.cell? ⟨g, q * 2 + 1, none⟩ = some (vs[q]'(by rw [h.own.len]; exact hq)) ∧ W.cell? ⟨g, q * 2, none⟩ = some (.int .i64 ss[q].final) := by
  have hqv : q < vs.length := by rw [h.own.len]; exact hq
  have r := Rd.of_own h.own.row
  have hz : ((ss.map (·.final)).zip vs).length = ss.length := by simp [h.own.len]
  have key : ∀ (j : Nat) (hj : j < 2), W.cell? ⟨g, q * 2 + j, none⟩ = (stCells (ss[q].final, vs[q]))[j]? := by
    intro j hj
    have e := flatMap_at stCells 2 (fun _ => rfl) ((ss.map (·.final)).zip vs) q (by omega) j hj
    simp only [List.getElem_zip, List.getElem_map] at e
    have hs : (stCells (ss[q].final, vs[q]))[j]? = some ((stCells (ss[q].final, vs[q]))[j]'hj) := List.getElem?_eq_getElem hj
    rw [hs] at e ⊢
    have := r.at' e
    simpa [blk_some, ofs_some] using this
  exact ⟨key 1 (by omega), key 0 (by omega)⟩
theorem BD.froz {g n c : Nat} (h : BD b W st (.slice (some ⟨g, 0, none⟩) n c) vs ss) (o : Nat) : W.frozen? ⟨g, o, none⟩ = false := by
  rcases h.own.row.2 with ⟨hv, _⟩ | ⟨g', cap, cur, hv, _, hh, _⟩
  · simp at hv
  · simp at hv; obtain ⟨rfl, -⟩ := hv
    simp [World.frozen?, hh]
theorem BD.arcs_row {g n c : Nat} (h : BD b W st (.slice (some ⟨g, 0, none⟩) n c) vs ss) {q : Nat} (hq : q < ss.length) (hq' : q < vs.length) : vs[q].ownBlock ≠ some g := by
  rcases own_ne (h.own.arcs q hq hq') h.own.row (by decide) with e | e
  · rw [e]; simp
  · simpa [Value.ownBlock] using e
/-- an arc is put to a state -/
theorem BD.add {g c : Nat} (h : BD b W st (.slice (some ⟨g, 0, none⟩) ss.length c) vs ss) (q : Nat) (hq : q < ss.length) (a : ArcL) {v' : Value} {k : Nat} (hk : k = ss[q].arcs.length + 1) (hg : W.grownBy W' (vs[q]'(by rw [h.own.len]; exact hq)).ownBlock)
    (hx : W'.ownsRow b 44 4 v' k (arcsCells ss[q].arcs ++ arcCells a)) (hat : ∀ x, v'.ownBlock = some x → (vs[q]'(by rw [h.own.len]; exact hq)).ownBlock = some x ∨ W.heap.size ≤ x) :
    BD b (W'.setCell ⟨g, q * 2 + 1, none⟩ v') st (.slice (some ⟨g, 0, none⟩) (addS ss (q, a)).length c) (vs.set q v') (addS ss (q, a)) ∧ BF b W (W'.setCell ⟨g, q * 2 + 1, none⟩ v') := by
  have hqv : q < vs.length := by rw [h.own.len]; exact hq
  have hgr : b ≤ g ∧ g < W.heap.size := h.own.row.lt g rfl
  have hgl := hgr.2
  have hvg : v'.ownBlock ≠ some g := fun e => by
    rcases hat g e with h1 | h1
    · exact h.arcs_row hq hqv h1
    · omega
  have ap : ∀ i (hi : i < vs.length), i ≠ q → Apart v' vs[i] := fun i hi hne k hk hk2 => by
    rcases hat k hk with h1 | h1
    · exact h.apart q i hqv hi (fun e => hne e.symm) k h1 hk2
    · have := (h.arcs_lt hi hk2).2; omega
  have kept : ∀ i (hi : i < ss.length) (hi' : i < vs.length), i ≠ q → OwnArcs W' b vs[i] ss[i].arcs := fun i hi hi' hne =>
    (h.own.arcs i hi hi').grown hg (by
      cases hb : (vs[i]).ownBlock with
      | none => exact .inl rfl
      | some k => exact .inr (fun e2 => h.apart i q hi' hqv hne k hb e2.symm))
  have hrow : W'.ownsRow b 40 2 (.slice (some ⟨g, 0, none⟩) ss.length c) ss.length (statesCells ((ss.map (·.final)).zip vs)) :=
    World.ownsRow.kept h.own.row hg (.inr (by simp only [Value.ownBlock]; exact (h.arcs_row hq hqv).symm))
  have hz : q < ((ss.map (·.final)).zip vs).length := by simp [h.own.len]; exact hq
  have hadd := addS_eq ss (q, a) hq
  simp only at hadd
  have hbx : Blk W' b #[.int .i64 st, .slice (some ⟨g, 0, none⟩) ss.length c] 100 := h.box.grown hg (h.arcs_ne hq hqv).symm
  have hgb : g ≠ b := fun e => h.row_ne (by simp [Value.ownBlock, e])
  refine ⟨⟨?_, ⟨by rw [addS_len]; simp [h.own.len], ?_, fun i hi hi' => ?_⟩, fun i j hi hj hij => ?_⟩, ?_, fun k cs t hB h1 h2 h3 => ?_⟩
  · rw [addS_len]
    exact hbx.far (by simpa using hgb.symm) _
  · have hr := (hrow.stored (q * 2 + 1) v').1
    rw [statesCells_set1 _ _ hz, zip_set_snd] at hr
    rw [addS_len, hadd, final_set _ _ hq]
    exact hr
  · rw [addS_len] at hi
    have hg2 := addS_get ss (q, a) hq i hi
    rw [hg2]
    by_cases e : q = i
    · subst e
      rw [if_pos rfl]
      simp only [List.getElem_set_self]
      subst hk
      have : OwnArcs W' b v' (ss[q].arcs ++ [a]) := by unfold OwnArcs; rw [arcsCells_snoc, List.length_append]; exact hx
      exact this.setCell (by simpa using hvg) _
    · rw [if_neg e, List.getElem_set_ne e]
      exact (kept i hi (by simpa using hi') (fun e' => e e'.symm)).setCell (by simpa using h.arcs_row hi (by simpa using hi')) _
  · by_cases e1 : q = i
    · subst e1
      simp only [List.getElem_set_self]
      rw [List.getElem_set_ne hij]
      exact ap j (by simpa using hj) (fun e => hij e.symm)
    · rw [List.getElem_set_ne e1]
      by_cases e2 : q = j
      · subst e2
        simp only [List.getElem_set_self]
        exact (ap i (by simpa using hi) (fun e => hij e)).symm
      · rw [List.getElem_set_ne e2]
        exact h.apart i j (by simpa using hi) (by simpa using hj) hij
  · have hbl := h.box.lt
    exact ((Below.refl b W).grown hg (by omega) (fun k hk => (h.arcs_lt hqv hk).1)).setCell (by simpa using hgr.1) _
  · refine (hB.grown hg (own_blk_ne (h.own.arcs q hq hqv) hB (fun e => h1 e.symm)).symm).far (fun e => ?_) _
    simp only at e; subst e
    exact own_blk_ne h.own.row hB (fun e => h2 e.symm) rfl
/-- a state's final becomes another one -/
theorem BD.setFinal {g c : Nat} (h : BD b W st (.slice (some ⟨g, 0, none⟩) ss.length c) vs ss) (q : Nat) (hq : q < ss.length) (f : Int) :
    BD b (W.setCell ⟨g, q * 2, none⟩ (.int .i64 f)) st (.slice (some ⟨g, 0, none⟩) ss.length c) vs (ss.set q ⟨f, ss[q].arcs⟩) ∧ BF b W (W.setCell ⟨g, q * 2, none⟩ (.int .i64 f)) := by
  have hgr : b ≤ g ∧ g < W.heap.size := h.own.row.lt g rfl
  have hgb : g ≠ b := fun e => h.row_ne (by simp [Value.ownBlock, e])
  refine ⟨⟨h.box.far (by simpa using hgb.symm) _, h.own.setFinal q hq f, h.apart⟩, (Below.refl b W).setCell (by simpa using hgr.1) _, fun k cs t hB h1 h2 h3 => hB.far (fun e => ?_) _⟩
  simp only at e; subst e
  exact own_blk_ne h.own.row hB (fun e => h2 e.symm) rfl
end
end Go.Proofs.Ytfikkpgigicepaa

namespace Go.Proofs.Ytfikkpgigicepaa
open Go.RowKit

set_option maxRecDepth 100000 in
set_option maxHeartbeats 8000000 in
theorem hop_any (b : Nat) (W : World) (st : Int) (sv : Value) (vs : List Value) (ss : List StateL) (h : BD b W st sv vs ss) (q : Nat) (hq : q < ss.length) (hn : ss.length ≤ 100000) (hl : ∀ s ∈ ss, s.arcs.length ≤ 100000) (tt wt : Int) :
    Calls Try.prog 47 #[.pointer (some ⟨b, 0, none⟩), .int .i64 q, .int .i64 tt, .int .i64 wt] W fun e w' => e = .returned (.tuple #[]) ∧ ∃ sv' vs', BD b w' st sv' vs' (addS ss (q, ⟨0, 0, wt, tt⟩)) ∧ BF b W w' := by
  obtain ⟨g, c, rfl, hbg, hg, hc⟩ := h.addr (by omega)
  have hqv : q < vs.length := by rw [h.own.len]; exact hq
  have H := Lib.hid h
  have hsl := hl _ (List.getElem_mem hq)
  obtain ⟨A2, c2, hv2, hc2, hc3⟩ := (h.own.arcs q hq hqv).form
  have hcell := (h.cell hq).1
  rw [hv2] at hcell
  have hown := h.own.arcs q hq hqv
  rw [hv2] at hown
  have hob := h.box.cell; have lob := h.box.lt
  have hfz := h.froz
  have nB : some b ≠ (Value.slice A2 ss[q].arcs.length c2).ownBlock := by rw [← hv2]; exact (h.arcs_ne hq hqv).symm
  have nG : some g ≠ (Value.slice A2 ss[q].arcs.length c2).ownBlock := by rw [← hv2]; exact (h.arcs_row hq hqv).symm
  have HV := Lib.hid hv2; have HOWN := Lib.hid hown
  have i0 : (0 : Int) ≤ ↑q := by omega
  have i1 : (↑q : Int) < ↑ss.length := by omega
  clear h hv2 hown hl
  generalize hse : ss[q] = s at *
  have HSE := Lib.hid hse
  clear hse
  have K8 : Hid (W.cell? ⟨b, 1, none⟩ = some (.slice (some ⟨g, 0, none⟩) ss.length c)) := Lib.hid (by simpa using hob 1)
  have K10 := Lib.hid hcell
  have HFZ := Lib.hid (hfz (q * 2 + 1))
  clear hob hcell hfz
  go_enter Try.func47, Try.ntmps47
  refine wp_region_noPanic ?_
  refine wp_region_last_drew (fun w' => w'.cell? ⟨b, 1, none⟩ = some (.slice (some ⟨g, 0, none⟩) ss.length c) ∧ w'.cell? ⟨g, q * 2 + 1, none⟩ = some (.slice A2 s.arcs.length c2)) (by kernel_rfl) (by simp only [List.back?_toArray, List.getLast?_cons_cons, List.getLast?_singleton]; rfl) (by simp only [List.pop_toArray, List.dropLast_cons_cons, List.dropLast_singleton]; rfl) (by kernel_rfl) ⟨K8.out, K10.out⟩ (fun hHeld => ?_)
  refine wpAnyH_take (i := 0) (v := ?v0) (by simp only [List.getElem?_toArray, List.getElem?_cons_zero]; rfl) (by kernel_rfl) (by kernel_rfl) (by kernel_rfl) (fun _ _ _ h => h) (Or.inl ⟨by rfl, ?h0⟩) hHeld ?r0
  case h0 => intro w hSw; (try dsimp only at hSw); go_simp; with_reducible rfl
  simp only [Act.put, List.setIfInBounds_toArray, List.set_cons_zero, List.set_cons_succ]
  refine wpAnyH_take (i := 1) (v := ?v1) (by simp only [List.getElem?_toArray, List.getElem?_cons_succ, List.getElem?_cons_zero]; rfl) (by kernel_rfl) (by kernel_rfl) (by kernel_rfl) (fun _ _ _ h => h) (Or.inl ⟨by rfl, ?h1⟩) hHeld ?r1
  case h1 => intro w hSw; (try dsimp only at hSw); go_simp; with_reducible rfl
  simp only [Act.put, List.setIfInBounds_toArray, List.set_cons_zero, List.set_cons_succ]
  refine wpAnyH_take (i := 2) (v := ?v2) (by simp only [List.getElem?_toArray, List.getElem?_cons_succ, List.getElem?_cons_zero]; rfl) (by kernel_rfl) (by kernel_rfl) (by kernel_rfl) (fun _ _ _ h => h) (Or.inl ⟨by rfl, ?h2⟩) hHeld ?r2
  case h2 => intro w hSw; (try dsimp only at hSw); go_simp; with_reducible rfl
  simp only [Act.put, List.setIfInBounds_toArray, List.set_cons_zero, List.set_cons_succ]
  refine wpAnyH_take (i := 3) (v := ?v3) (by simp only [List.getElem?_toArray, List.getElem?_cons_succ, List.getElem?_cons_zero]; rfl) (by kernel_rfl) (by kernel_rfl) (by kernel_rfl) (fun _ _ _ h => h) (Or.inl ⟨by rfl, ?h3⟩) hHeld ?r3
  case h3 => intro w hSw; (try dsimp only at hSw); go_simp; with_reducible rfl
  simp only [Act.put, List.setIfInBounds_toArray, List.set_cons_zero, List.set_cons_succ]
  refine wpAnyH_take (i := 4) (v := ?v4) (by simp only [List.getElem?_toArray, List.getElem?_cons_succ, List.getElem?_cons_zero]; rfl) (by kernel_rfl) (by kernel_rfl) (by kernel_rfl) (fun _ _ _ h => h) (Or.inl ⟨by rfl, ?h4⟩) hHeld ?r4
  case h4 => intro w hSw; (try dsimp only at hSw); go_simp; with_reducible rfl
  simp only [Act.put, List.setIfInBounds_toArray, List.set_cons_zero, List.set_cons_succ]
  refine wpAnyH_take (i := 5) (v := ?v5) (by simp only [List.getElem?_toArray, List.getElem?_cons_succ, List.getElem?_cons_zero]; rfl) (by kernel_rfl) (by kernel_rfl) (by kernel_rfl) (fun _ _ _ h => h) (Or.inl ⟨by rfl, ?h5⟩) hHeld ?r5
  case h5 => intro w hSw; (try dsimp only at hSw); go_simp; with_reducible rfl
  simp only [Act.put, List.setIfInBounds_toArray, List.set_cons_zero, List.set_cons_succ]
  refine wpAnyH_take (i := 6) (v := ?v6) (by simp only [List.getElem?_toArray, List.getElem?_cons_succ, List.getElem?_cons_zero]; rfl) (by kernel_rfl) (by kernel_rfl) (by kernel_rfl) (fun _ _ _ h => h) (Or.inl ⟨by rfl, ?h6⟩) hHeld ?r6
  case h6 => intro w hSw; (try dsimp only at hSw); go_simp; with_reducible rfl
  simp only [Act.put, List.setIfInBounds_toArray, List.set_cons_zero, List.set_cons_succ]
  refine wpAnyH_take (i := 7) (v := ?v7) (by simp only [List.getElem?_toArray, List.getElem?_cons_succ, List.getElem?_cons_zero]; rfl) (by kernel_rfl) (by kernel_rfl) (by kernel_rfl) (fun _ _ _ h => h) (Or.inl ⟨by rfl, ?h7⟩) hHeld ?r7
  case h7 => intro w hSw; (try dsimp only at hSw); go_simp; with_reducible rfl
  simp only [Act.put, List.setIfInBounds_toArray, List.set_cons_zero, List.set_cons_succ]
  refine wpAnyH_take (i := 8) (v := ?v8) (by simp only [List.getElem?_toArray, List.getElem?_cons_succ, List.getElem?_cons_zero]; rfl) (by kernel_rfl) (by kernel_rfl) (by kernel_rfl) (fun _ _ _ h => h) (Or.inl ⟨by rfl, ?h8⟩) hHeld ?r8
  case h8 => intro w hSw; (try dsimp only at hSw); go_simp; with_reducible rfl
  simp only [Act.put, List.setIfInBounds_toArray, List.set_cons_zero, List.set_cons_succ]
  refine wpAnyH_take (i := 9) (v := ?v9) (by simp only [List.getElem?_toArray, List.getElem?_cons_succ, List.getElem?_cons_zero]; rfl) (by kernel_rfl) (by kernel_rfl) (by kernel_rfl) (fun _ _ _ h => h) (Or.inl ⟨by rfl, ?h9⟩) hHeld ?r9
  case h9 => intro w hSw; (try dsimp only at hSw); go_simp; with_reducible rfl
  simp only [Act.put, List.setIfInBounds_toArray, List.set_cons_zero, List.set_cons_succ]
  refine wpAnyH_take (i := 10) (v := ?v10) (by simp only [List.getElem?_toArray, List.getElem?_cons_succ, List.getElem?_cons_zero]; rfl) (by kernel_rfl) (by kernel_rfl) (by kernel_rfl) (fun _ _ _ h => h) (Or.inl ⟨by rfl, ?h10⟩) hHeld ?r10
  case h10 => intro w hSw; (try dsimp only at hSw); go_simp; with_reducible rfl
  simp only [Act.put, List.setIfInBounds_toArray, List.set_cons_zero, List.set_cons_succ]
  refine wpAnyH_take (i := 11) (v := ?v11) (by simp only [List.getElem?_toArray, List.getElem?_cons_succ, List.getElem?_cons_zero]; rfl) (by kernel_rfl) (by kernel_rfl) (by kernel_rfl) (fun _ _ _ h => h) (Or.inl ⟨by rfl, ?h11⟩) hHeld ?r11
  case h11 => intro w hSw; (try dsimp only at hSw); go_simp; with_reducible rfl
  simp only [Act.put, List.setIfInBounds_toArray, List.set_cons_zero, List.set_cons_succ]
  refine wpAnyH_take (i := 12) (v := ?v12) (by simp only [List.getElem?_toArray, List.getElem?_cons_succ, List.getElem?_cons_zero]; rfl) (by kernel_rfl) (by kernel_rfl) (by kernel_rfl) (fun _ _ _ h => h) (Or.inl ⟨by rfl, ?h12⟩) hHeld ?r12
  case h12 => intro w hSw; (try dsimp only at hSw); go_simp; with_reducible rfl
  simp only [Act.put, List.setIfInBounds_toArray, List.set_cons_zero, List.set_cons_succ]
  refine wpAnyH_take (i := 13) (v := ?v13) (by simp only [List.getElem?_toArray, List.getElem?_cons_succ, List.getElem?_cons_zero]; rfl) (by kernel_rfl) (by kernel_rfl) (by kernel_rfl) (fun _ _ _ h => h) (Or.inl ⟨by rfl, ?h13⟩) hHeld ?r13
  case h13 => intro w hSw; (try dsimp only at hSw); go_simp; with_reducible rfl
  simp only [Act.put, List.setIfInBounds_toArray, List.set_cons_zero, List.set_cons_succ]
  refine wpAnyH_take (i := 14) (v := ?v14) (by simp only [List.getElem?_toArray, List.getElem?_cons_succ, List.getElem?_cons_zero]; rfl) (by kernel_rfl) (by kernel_rfl) (by kernel_rfl) (fun _ _ _ h => h) (Or.inl ⟨by rfl, ?h14⟩) hHeld ?r14
  case h14 => intro w hSw; (try dsimp only at hSw); go_simp; with_reducible rfl
  simp only [Act.put, List.setIfInBounds_toArray, List.set_cons_zero, List.set_cons_succ]
  refine wpAnyH_take (i := 15) (v := ?v15) (by simp only [List.getElem?_toArray, List.getElem?_cons_succ, List.getElem?_cons_zero]; rfl) (by kernel_rfl) (by kernel_rfl) (by kernel_rfl) (fun _ _ _ h => h) (Or.inl ⟨by rfl, ?h15⟩) hHeld ?r15
  case h15 => intro w hSw; (try dsimp only at hSw); go_simp; with_reducible rfl
  simp only [Act.put, List.setIfInBounds_toArray, List.set_cons_zero, List.set_cons_succ]
  refine wpAnyH_take (i := 16) (v := ?v16) (by simp only [List.getElem?_toArray, List.getElem?_cons_succ, List.getElem?_cons_zero]; rfl) (by kernel_rfl) (by kernel_rfl) (by kernel_rfl) (fun _ _ _ h => h) (Or.inl ⟨by rfl, ?h16⟩) hHeld ?r16
  case h16 => intro w hSw; (try dsimp only at hSw); go_simp; with_reducible rfl
  simp only [Act.put, List.setIfInBounds_toArray, List.set_cons_zero, List.set_cons_succ]
  refine wpAnyH_take (i := 17) (v := ?v17) (by simp only [List.getElem?_toArray, List.getElem?_cons_succ, List.getElem?_cons_zero]; rfl) (by kernel_rfl) (by kernel_rfl) (by kernel_rfl) (fun _ _ _ h => h) (Or.inl ⟨by rfl, ?h17⟩) hHeld ?r17
  case h17 => intro w hSw; (try dsimp only at hSw); go_simp; with_reducible rfl
  simp only [Act.put, List.setIfInBounds_toArray, List.set_cons_zero, List.set_cons_succ]
  refine wpAnyH_ready (rs := [18]) (by kernel_rfl) (by simp) (AllReadyH.cons (by simp only [List.getElem?_toArray, List.getElem?_cons_succ, List.getElem?_cons_zero]; rfl) (fun K hK => ?s9) AllReadyH.nil)
  go_simp
  refine hK.out _ _ ⟨cell_keep (w := W) (B := W.heap.size) (by repeat' (first | exact Below.refl _ _ | assumption | refine Below.drew ?_ | refine Below.alloc ?_ (by first | omega | (simp; done) | (simp; omega)) _ | refine Below.setCell ?_ (by first | omega | (simp; done) | (simp; omega)) _)) (Nat.le_refl _) K8.out, cell_keep (w := W) (B := W.heap.size) (by repeat' (first | exact Below.refl _ _ | assumption | refine Below.drew ?_ | refine Below.alloc ?_ (by first | omega | (simp; done) | (simp; omega)) _ | refine Below.setCell ?_ (by first | omega | (simp; done) | (simp; omega)) _)) (Nat.le_refl _) K10.out⟩ (fun hHeld => ?_)
  clear hK K
  refine wpAnyH_ready (rs := [19]) (by kernel_rfl) (by simp) (AllReadyH.cons (by simp only [List.getElem?_toArray, List.getElem?_cons_succ, List.getElem?_cons_zero]; rfl) (fun K hK => ?s10) AllReadyH.nil)
  refine step_app1 (by rfl) _ _ (by rfl) eltArc b (.slice A2 s.arcs.length c2) _ _ (by rfl) (HOWN.out.alloc _) W.heap.size #[.int .i64 0, .int .i64 0, .int .i64 wt, .int .i64 tt] (heap_alloc_new W _) (by rfl) (by rfl) (by simp [Value.oneCell']) (by omega) (by omega) (by simp; omega) ?_; intro g3 cap w8 ho8 hg8 hat8 hlt8; have z8 := hg8.cell hHeld.1 nB; have z10 := hg8.cell hHeld.2 nG
  refine hK.out _ _ ⟨z8, z10⟩ (fun hHeld => ?_)
  clear hK K
  simp only [Act.put, List.setIfInBounds_toArray, List.set_cons_zero, List.set_cons_succ]
  refine wpAnyH_take (i := 20) (v := ?v20) (by simp only [List.getElem?_toArray, List.getElem?_cons_succ, List.getElem?_cons_zero]; rfl) (by kernel_rfl) (by kernel_rfl) (by kernel_rfl) (fun _ _ _ h => h) (Or.inl ⟨by rfl, ?h20⟩) hHeld ?r20
  case h20 => intro w hSw; (try dsimp only at hSw); go_simp; with_reducible rfl
  simp only [Act.put, List.setIfInBounds_toArray, List.set_cons_zero, List.set_cons_succ]
  refine wpAnyH_take (i := 21) (v := ?v21) (by simp only [List.getElem?_toArray, List.getElem?_cons_succ, List.getElem?_cons_zero]; rfl) (by kernel_rfl) (by kernel_rfl) (by kernel_rfl) (fun _ _ _ h => h) (Or.inl ⟨by rfl, ?h21⟩) hHeld ?r21
  case h21 => intro w hSw; (try dsimp only at hSw); go_simp; with_reducible rfl
  simp only [Act.put, List.setIfInBounds_toArray, List.set_cons_zero, List.set_cons_succ]
  refine wpAnyH_done (by kernel_rfl) ?_ _
  show Oper.wp _ _ _ _ _ _
  have b7 : Below W.heap.size W (W.alloc (.cells #[.int .i64 0, .int .i64 0, .int .i64 wt, .int .i64 tt] 44)).drew := (by repeat' (first | exact Below.refl _ _ | assumption | refine Below.drew ?_ | refine Below.alloc ?_ (by first | omega | (simp; done) | (simp; omega)) _ | refine Below.setCell ?_ (by first | omega | (simp; done) | (simp; omega)) _))
  have hz1 : w8.frozen? ⟨g, q * 2 + 1, none⟩ = false := by
    rw [World.frozen?_of_block (hg8.block g (by simp; omega) nG)]
    exact frozB b7 K10.out HFZ.out
  have lg8 := World.block_lt_of_cell? _ _ z10
  go_simp
  refine NoPanic.normal ?_
  have hput : ∃ sv' vs', BD b (w8.setCell ⟨g, q * 2 + 1, none⟩ (.slice (some ⟨g3, 0, none⟩) (s.arcs.length + 1) cap)) st sv' vs' (addS ss (q, ⟨0, 0, wt, tt⟩)) ∧ BF b W (w8.setCell ⟨g, q * 2 + 1, none⟩ (.slice (some ⟨g3, 0, none⟩) (s.arcs.length + 1) cap)) := by
    have h8 := H.out.keep b7
    have e := HSE.out
    clear HSE
    subst e
    have := h8.add q hq ⟨0, 0, wt, tt⟩ rfl (by rw [HV.out]; exact hg8) ho8 (fun x hx => by
      rw [HV.out]
      simp only [Value.ownBlock, Option.some.injEq] at hx
      subst hx
      exact hat8.imp id (fun h => by omega))
    exact ⟨_, _, this.1, (BF.below b7 (by omega)).trans this.2⟩
  clear z8 z10 hz1
  have HPUT := Lib.hid hput
  clear hput
  go_end0
  obtain ⟨s', v', h1, h2⟩ := HPUT.out
  exact ⟨rfl, ⟨s', v', h1⟩, h2⟩

theorem BD.mach {b : Nat} {W : World} {st : Int} {sv : Value} {vs : List Value} {ss : List StateL} (h : BD b W st sv vs ss) : OwnMach W b (.agg #[.int .i64 st, sv]) ⟨st, ss⟩ := ⟨sv, rfl, vs, h.own⟩
set_option maxRecDepth 100000 in
set_option maxHeartbeats 2000000 in
theorem built_any (b : Nat) (W : World) (st : Int) (sv : Value) (vs : List Value) (ss : List StateL) (h : BD b W st sv vs ss) (hv : Valid ⟨st, ss⟩) :
    Calls Try.prog 48 #[.pointer (some ⟨b, 0, none⟩)] W fun e w' => ∃ mv, e = .returned (.tuple #[mv, .int .i64 0]) ∧ OwnMach w' b mv ⟨st, ss⟩ ∧ Below W.heap.size W w' := by
  have CH := Lib.hid (fun W' (hb : Below W.heap.size W W') => Check_ok (.agg #[.int .i64 st, sv]) ⟨st, ss⟩ W' (h.mach.at_.below hb) hv)
  have H := Lib.hid h
  obtain ⟨A, c, rfl, -⟩ := h.form
  have kb := h.box.cell; have lb := h.lt
  clear h
  go_enter Try.func48, Try.ntmps48
  go_wp2_with fail
  refine (CH.out _ (by repeat' (first | exact Below.refl _ _ | assumption | refine Below.drew ?_ | refine Below.alloc ?_ (by first | omega | (simp; done) | (simp; omega)) _ | refine Below.setCell ?_ (by first | omega | (simp; done) | (simp; omega)) _))).mono ?_; rintro e w1 ⟨rfl, bel⟩; obtain ⟨c1, f1⟩ := bcell bel; have z1 := bel.size; simp at z1; (try have y0 : w.heap.size < w1.heap.size := by omega); (try have y1 : w.heap.size + 1 < w1.heap.size := by omega); (try have y2 : w.heap.size + 1 + 1 < w1.heap.size := by omega); (try have y3 : w.heap.size + 1 + 1 + 1 < w1.heap.size := by omega); (try have y4 : w.heap.size + 1 + 1 + 1 + 1 < w1.heap.size := by omega); (try have y5 : w.heap.size + 1 + 1 + 1 + 1 + 1 < w1.heap.size := by omega); (try have y6 : w.heap.size + 1 + 1 + 1 + 1 + 1 + 1 < w1.heap.size := by omega)
  have kz := (H.out.keep (W' := w1) ((Below.alloc (Below.refl _ _) (Nat.le_refl _) (.cells #[.int .i64 0, .slice none 0 0] 28)).trans (bel.mono (by simp)))).box.cell
  have bz : Below W.heap.size W w1 := (Below.alloc (Below.refl _ _) (Nat.le_refl _) (.cells #[.int .i64 0, .slice none 0 0] 28)).trans (bel.mono (by simp))
  go_wp2_with fail
  refine bodyPost_ret (v := .tuple #[.agg #[.int .i64 st, .slice A ss.length c], .int .i64 0]) (by simp [results, Try.results48, go_sem, *]) rfl ⟨_, rfl, ⟨_, rfl, vs, ?_⟩, ?_⟩
  · have h2 := H.out.keep bz
    have e1 : (Value.slice A ss.length c).ownBlock ≠ some W.heap.size := own_lt H.out.own.row (Nat.le_refl _)
    have e2 := fun i hi hi' => own_lt (H.out.own.arcs i hi hi') (Nat.le_refl W.heap.size)
    exact ⟨h2.own.len, own_setCell (own_setCell h2.own.row (by simpa using e1) _) (by simpa using e1) _, fun i hi hi' => ((h2.own.arcs i hi hi').setCell (by simpa using e2 i hi hi') _).setCell (by simpa using e2 i hi hi') _⟩
  · exact (bz.setCell (by simp) _).setCell (by simp) _
end Go.Proofs.Ytfikkpgigicepaa

namespace Go.Proofs.Ytfikkpgigicepaa
open Go.RowKit

def movA (d : Int) (a : ArcL) : ArcL := ⟨a.inn, a.out, a.wt, a.to + d⟩
def movS (d : Int) (s : StateL) : StateL := ⟨s.final, s.arcs.map (movA d)⟩
theorem map_snoc' {α β : Type} (f : α → β) (l : List α) (k : Nat) (h : k < l.length) : (l.take (k + 1)).map f = (l.take k).map f ++ [f l[k]] := by
  rw [List.take_succ_eq_append_getElem h, List.map_append]; rfl

set_option maxRecDepth 100000 in
set_option maxHeartbeats 8000000 in
theorem addm_any (b : Nat) (W : World) (st : Int) (sv : Value) (vs : List Value) (ss : List StateL) (h : BD b W st sv vs ss) (ms : Int) (A : Option Addr) (c : Nat) (s0 : List StateL) (hm : ∀ W', Below b W W' → StatesAt W' A s0)
    (hn : ss.length + s0.length ≤ 1000) (hl : ∀ s ∈ s0, s.arcs.length ≤ 1000) (hto : ∀ s ∈ s0, ∀ a ∈ s.arcs, 0 ≤ a.to ∧ a.to ≤ 1000) :
    Calls Try.prog 46 #[.pointer (some ⟨b, 0, none⟩), .agg #[.int .i64 ms, .slice A s0.length c]] W fun e w' => e = .returned (.int .i64 ss.length) ∧ ∃ sv' vs', BD b w' st sv' vs' (ss ++ s0.map (movS ss.length)) ∧ BF b W w' := by
  have H := Lib.hid h; have HMM := Lib.hid hm; have HL := Lib.hid hl; have HTO := Lib.hid hto
  have rd := (hm W (Below.refl _ _)).rdy
  have HSN := Lib.hid (map_snoc' (movS ss.length) s0)
  obtain ⟨A1, c1, rfl, -⟩ := h.form
  have kb := h.box.cell; have lb := h.lt
  clear h hm hl hto
  go_enter Try.func46, Try.ntmps46
  go_wp2_with fail
  have BD0 := H.out.keep (W' := W.alloc (.cells #[.int .i64 ms, .slice A s0.length c] 28)) (by repeat' (first | exact Below.refl _ _ | assumption | refine Below.drew ?_ | refine Below.alloc ?_ (by first | omega | (simp; done) | (simp; omega)) _ | refine Below.setCell ?_ (by first | omega | (simp; done) | (simp; omega)) _))
  have BF0 : BF b W (W.alloc (.cells #[.int .i64 ms, .slice A s0.length c] 28)) := BF.below (by repeat' (first | exact Below.refl _ _ | assumption | refine Below.drew ?_ | refine Below.alloc ?_ (by first | omega | (simp; done) | (simp; omega)) _ | refine Below.setCell ?_ (by first | omega | (simp; done) | (simp; omega)) _)) (by omega)
  clear kb
  generalize W.alloc (.cells #[.int .i64 ms, .slice A s0.length c] 28) = wl at *
  generalize hd : ss.length = d at *
  have HD := Lib.hid hd; clear hd
  go_loopw [20] (fun i wr => ∃ (k : Nat) (sv : Value) (vs : List Value), k ≤ s0.length ∧ i = .int .i64 k ∧ BD b wr st sv vs (ss ++ (s0.take k).map (movS d)) ∧ BF b W wr) (fun i _ => s0.length - (intOf i).toNat)
  case atStart => exact ⟨0, _, _, by omega, rfl, by simpa using BD0, BF0⟩
  case round =>
    obtain ⟨k, sv, vs, hk, rfl, hM, hF⟩ := hrel
    have HM := Lib.hid hM; have HF := Lib.hid hF
    have hls : (ss ++ (s0.take k).map (movS d)).length = d + k := by simp [HD.out]; omega
    by_cases hlt : k < s0.length
    · have hSr := HMM.out _ hF.bel
      have d0 := hSr.c0 k hlt
      obtain ⟨A', c', d1, hA'⟩ := hSr.c1 k hlt
      have hA2 : ∀ wx, Below wr.heap.size wr wx → ArcsAt wx A' s0[k].arcs := fun wx hb => hA'.below hb (Nat.le_refl _)
      have hms := HSN.out k hlt
      have q2 := HL.out _ (List.getElem_mem hlt)
      have q3 := HTO.out _ (List.getElem_mem hlt)
      generalize s0[k] = s at *
      have HA := Lib.hid hA2
      have HMSK := Lib.hid hms; have Q3 := Lib.hid q3
      have rdA := hA'.rdy
      have lm := hM.lt
      clear hSr hA' hms hM hF hA2 q3
      have lA : blk A < wr.heap.size := World.block_lt_of_cell? _ _ d0
      obtain ⟨wo, rfl⟩ : ∃ wo : World, wo = wr := ⟨_, rfl⟩
      go_wp2_with fail
      have A0 : AB ((wo.alloc (.cells #[.int .i64 s.final, .slice A' s.arcs.length c'] 40)).alloc (.cells #[.int .i64 s.final, .slice none 0 0] 40)) _ (wo.heap.size + 1) s.final _ [] := AB.start (by simp [go_sem]) (by simp [go_sem]) (by simp [go_sem]) (by simp [go_sem])
      have b2 : Below wo.heap.size wo ((wo.alloc (.cells #[.int .i64 s.final, .slice A' s.arcs.length c'] 40)).alloc (.cells #[.int .i64 s.final, .slice none 0 0] 40)) := (by repeat' (first | exact Below.refl _ _ | assumption | refine Below.drew ?_ | refine Below.alloc ?_ (by first | omega | (simp; done) | (simp; omega)) _ | refine Below.setCell ?_ (by first | omega | (simp; done) | (simp; omega)) _))
      have s2 : wo.heap.size + 2 = ((wo.alloc (.cells #[.int .i64 s.final, .slice A' s.arcs.length c'] 40)).alloc (.cells #[.int .i64 s.final, .slice none 0 0] 40)).heap.size := by simp
      generalize (wo.alloc (.cells #[.int .i64 s.final, .slice A' s.arcs.length c'] 40)).alloc (.cells #[.int .i64 s.final, .slice none 0 0] 40) = w2 at *
      go_loopw [30] (fun i wi => ∃ (t : Nat) (av : Value), t ≤ s.arcs.length ∧ i = .int .i64 t ∧ AB w2 wi (wo.heap.size + 1) s.final av ((s.arcs.take t).map (movA d))) (fun i _ => s.arcs.length - (intOf i).toNat)
      case atStart => exact ⟨0, _, by omega, rfl, A0⟩
      case round =>
        obtain ⟨t, av, ht, rfl, hI⟩ := hrel
        obtain ⟨wi, rfl⟩ : ∃ wi : World, wi = wr := ⟨_, rfl⟩
        have HI := Lib.hid hI
        have bwi := hI.below b2 (by omega)
        have hli : ((s.arcs.take t).map (movA d)).length = t := by simp; omega
        have m1 := hI.lt
        by_cases hlt2 : t < s.arcs.length
        · have hAr := HA.out _ bwi
          have d0 := hAr.c0 t hlt2; have d1 := hAr.c1 t hlt2; have d2 := hAr.c2 t hlt2; have d3 := hAr.c3 t hlt2
          have hsn := map_snoc' (movA d) s.arcs t hlt2
          have hq3 := Q3.out _ (List.getElem_mem hlt2)
          generalize s.arcs[t] = a at *
          obtain ⟨t0, t1⟩ := hq3
          have lA' : blk A' < wi.heap.size := World.block_lt_of_cell? _ _ d0
          have HSN2 := Lib.hid hsn
          have i1 := hI.s1; have i3 := hI.f1
          have hwr : IntKind.i64.wrap (a.to + d) = a.to + d := IntWalk.i64_in _ (by omega)
          have hO := hI.own
          unfold OwnArcs at hO
          rw [hli] at hO
          have HO := Lib.hid hO
          have zg := hI.grown.size
          clear hsn hAr hI hO
          go_upto_region 10 with fail
          have hA5 := HI.out.keep (wx := wi.alloc (.cells #[.int .i64 a.inn, .int .i64 a.out, .int .i64 a.wt, .int .i64 (a.to + d)] 44)) (by repeat' (first | exact Below.refl _ _ | assumption | refine Below.drew ?_ | refine Below.alloc ?_ (by first | omega | (simp; done) | (simp; omega)) _ | refine Below.setCell ?_ (by first | omega | (simp; done) | (simp; omega)) _))
          have HA5 := Lib.hid hA5
          have HO5 := Lib.hid (HO.out.alloc (.cells #[.int .i64 a.inn, .int .i64 a.out, .int .i64 a.wt, .int .i64 (a.to + d)] 44))
          have j1 := hA5.s1; have j2 := hA5.f1; have j3 := hA5.lt; have j4 := hA5.grown.size
          have BA : Blk (wi.alloc (.cells #[.int .i64 a.inn, .int .i64 a.out, .int .i64 a.wt, .int .i64 (a.to + d)] 44)) wi.heap.size _ _ := Blk.new _ _ _
          have kA := BA.cell; have lAb := BA.lt
          clear i1 i3 d0 d1 d2 d3 hA5
          generalize wi.alloc (.cells #[.int .i64 a.inn, .int .i64 a.out, .int .i64 a.wt, .int .i64 (a.to + d)] 44) = w5 at *
          go_wp2_with (at_builtin; refine wpList_app1 rfl _ _ rfl eltArc w2.heap.size av t _ rfl w5 HO5.out #[.int .i64 a.inn, .int .i64 a.out, .int .i64 a.wt, .int .i64 (a.to + d)] rfl w5.heap.size rfl rfl rfl (by simp [Value.oneCell']) (by omega) (by omega) j4 ?_; intro g4 cap w6 hown4 hg4 hat hlt4; obtain ⟨e1, e2, e3⟩ := HA5.out.far hg4)
          have hz := HA5.out.app (movA d a) (k := t + 1) (by rw [hli]) hg4 hown4
          rw [← HSN2.out] at hz
          have HZ := Lib.hid hz
          clear hz hown4 hg4
          go_roundw
          case rel => exact ⟨t + 1, _, by omega, by go_num, HZ.out⟩
          case measure => simp [intOf]; omega
        · have hte : (s.arcs.take t).map (movA d) = s.arcs.map (movA d) := by rw [List.take_of_length_le (by omega)]
          rw [hte] at hI
          have HI2 := Lib.hid hI
          have hB3 := HM.out.keep bwi
          have HB3 := Lib.hid hB3
          obtain ⟨A9, c9, hav, -, -⟩ := hI.form
          obtain ⟨A8, c8, hsv, -, -⟩ := hB3.form
          rw [List.length_map] at hav
          rw [hls] at hsv
          subst hav; subst hsv
          have hrow := hB3.own.row
          rw [hls] at hrow
          have HROW := Lib.hid hrow
          have K1 : Hid (wi.cell? ⟨b, 1, none⟩ = some (.slice A8 (d + k) c8)) := Lib.hid (by simpa using hB3.box.cell 1)
          have K2 := Lib.hid hI.s0; have K3 := Lib.hid hI.s1
          have hrb := hB3.row_ne
          have hbf := hB3.box.froz 1
          have hbb := hB3.lt
          have r1 : some (wo.heap.size + 1) ≠ (Value.slice A8 (d + k) c8).ownBlock := fun e => by
            have := (HM.out.own.row.lt _ e.symm).2; omega
          clear hI hte hB3 hrow HI
          generalize hfin : s.final = fin at *
          have HFIN := Lib.hid hfin; clear hfin
          go_upto_region 12 with fail
          refine wp_region_noPanic ?_
          refine wp_region_last_drew3 (fun w' => w'.cell? ⟨b, 1, none⟩ = some (.slice A8 (d + k) c8) ∧ w'.cell? ⟨wo.heap.size + 1, 0, none⟩ = some (.int .i64 fin) ∧ w'.cell? ⟨wo.heap.size + 1, 1, none⟩ = some (.slice A9 s.arcs.length c9)) (by kernel_rfl) (by simp only [List.back?_toArray, List.getLast?_cons_cons, List.getLast?_singleton]; rfl) (by simp only [List.pop_toArray, List.dropLast_cons_cons, List.dropLast_singleton]; rfl) (by kernel_rfl) ⟨K1.out, K2.out, K3.out⟩ (fun hHeld => ?_)
          refine wpAnyH_take (i := 0) (v := ?v0) (by simp only [List.getElem?_toArray, List.getElem?_cons_zero]; rfl) (by kernel_rfl) (by kernel_rfl) (by kernel_rfl) (fun _ _ _ h => h) (Or.inl ⟨by rfl, ?h0⟩) hHeld ?r0
          case h0 => intro w hSw; (try dsimp only at hSw); go_simp; with_reducible rfl
          simp only [Act.put, List.setIfInBounds_toArray, List.set_cons_zero, List.set_cons_succ]
          refine wpAnyH_take (i := 1) (v := ?v1) (by simp only [List.getElem?_toArray, List.getElem?_cons_succ, List.getElem?_cons_zero]; rfl) (by kernel_rfl) (by kernel_rfl) (by kernel_rfl) (fun _ _ _ h => h) (Or.inl ⟨by rfl, ?h1⟩) hHeld ?r1
          case h1 => intro w hSw; (try dsimp only at hSw); go_simp; with_reducible rfl
          simp only [Act.put, List.setIfInBounds_toArray, List.set_cons_zero, List.set_cons_succ]
          refine wpAnyH_take (i := 2) (v := ?v2) (by simp only [List.getElem?_toArray, List.getElem?_cons_succ, List.getElem?_cons_zero]; rfl) (by kernel_rfl) (by kernel_rfl) (by kernel_rfl) (fun _ _ _ h => h) (Or.inl ⟨by rfl, ?h2⟩) hHeld ?r2
          case h2 => intro w hSw; (try dsimp only at hSw); go_simp; with_reducible rfl
          simp only [Act.put, List.setIfInBounds_toArray, List.set_cons_zero, List.set_cons_succ]
          refine wpAnyH_take (i := 3) (v := ?v3) (by simp only [List.getElem?_toArray, List.getElem?_cons_succ, List.getElem?_cons_zero]; rfl) (by kernel_rfl) (by kernel_rfl) (by kernel_rfl) (fun _ _ _ h => h) (Or.inl ⟨by rfl, ?h3⟩) hHeld ?r3
          case h3 => intro w hSw; (try dsimp only at hSw); go_simp; with_reducible rfl
          simp only [Act.put, List.setIfInBounds_toArray, List.set_cons_zero, List.set_cons_succ]
          refine wpAnyH_take (i := 4) (v := ?v4) (by simp only [List.getElem?_toArray, List.getElem?_cons_succ, List.getElem?_cons_zero]; rfl) (by kernel_rfl) (by kernel_rfl) (by kernel_rfl) (fun _ _ _ h => h) (Or.inl ⟨by rfl, ?h4⟩) hHeld ?r4
          case h4 => intro w hSw; (try dsimp only at hSw); go_simp; with_reducible rfl
          simp only [Act.put, List.setIfInBounds_toArray, List.set_cons_zero, List.set_cons_succ]
          refine wpAnyH_take (i := 5) (v := ?v5) (by simp only [List.getElem?_toArray, List.getElem?_cons_succ, List.getElem?_cons_zero]; rfl) (by kernel_rfl) (by kernel_rfl) (by kernel_rfl) (fun _ _ _ h => h) (Or.inl ⟨by rfl, ?h5⟩) hHeld ?r5
          case h5 => intro w hSw; (try dsimp only at hSw); go_simp; with_reducible rfl
          simp only [Act.put, List.setIfInBounds_toArray, List.set_cons_zero, List.set_cons_succ]
          refine wpAnyH_take (i := 6) (v := ?v6) (by simp only [List.getElem?_toArray, List.getElem?_cons_succ, List.getElem?_cons_zero]; rfl) (by kernel_rfl) (by kernel_rfl) (by kernel_rfl) (fun _ _ _ h => h) (Or.inl ⟨by rfl, ?h6⟩) hHeld ?r6
          case h6 => intro w hSw; (try dsimp only at hSw); go_simp; with_reducible rfl
          simp only [Act.put, List.setIfInBounds_toArray, List.set_cons_zero, List.set_cons_succ]
          refine wpAnyH_ready (rs := [7]) (by kernel_rfl) (by simp) (AllReadyH.cons (by simp only [List.getElem?_toArray, List.getElem?_cons_succ, List.getElem?_cons_zero]; rfl) (fun K hK => ?s9) AllReadyH.nil)
          go_simp
          refine hK.out _ _ ⟨cell_keep (w := wi) (B := wi.heap.size) (by repeat' (first | exact Below.refl _ _ | assumption | refine Below.drew ?_ | refine Below.alloc ?_ (by first | omega | (simp; done) | (simp; omega)) _ | refine Below.setCell ?_ (by first | omega | (simp; done) | (simp; omega)) _)) (Nat.le_refl _) K1.out, cell_keep (w := wi) (B := wi.heap.size) (by repeat' (first | exact Below.refl _ _ | assumption | refine Below.drew ?_ | refine Below.alloc ?_ (by first | omega | (simp; done) | (simp; omega)) _ | refine Below.setCell ?_ (by first | omega | (simp; done) | (simp; omega)) _)) (Nat.le_refl _) K2.out, cell_keep (w := wi) (B := wi.heap.size) (by repeat' (first | exact Below.refl _ _ | assumption | refine Below.drew ?_ | refine Below.alloc ?_ (by first | omega | (simp; done) | (simp; omega)) _ | refine Below.setCell ?_ (by first | omega | (simp; done) | (simp; omega)) _)) (Nat.le_refl _) K3.out⟩ (fun hHeld => ?_)
          clear hK K
          refine wpAnyH_ready (rs := [8]) (by kernel_rfl) (by simp) (AllReadyH.cons (by simp only [List.getElem?_toArray, List.getElem?_cons_succ, List.getElem?_cons_zero]; rfl) (fun K hK => ?s10) AllReadyH.nil)
          refine step_app1 (by rfl) _ _ (by rfl) eltState b (.slice A8 (d + k) c8) _ _ (by rfl) (HROW.out.alloc _) wi.heap.size #[.int .i64 fin, .slice A9 s.arcs.length c9] (heap_alloc_new wi _) (by rfl) (by rfl) (by simp [Value.oneCell']) (by omega) (by omega) (by simp; omega) ?_; intro g3 cap w8 ho8 hg8 hat8 hlt8; have z8 := hg8.cell hHeld.1 (fun e => hrb e.symm); have z9 := hg8.cell hHeld.2.1 r1; have z10 := hg8.cell hHeld.2.2 r1
          refine hK.out _ _ ⟨z8, z9, z10⟩ (fun hHeld => ?_)
          clear hK K
          simp only [Act.put, List.setIfInBounds_toArray, List.set_cons_zero, List.set_cons_succ]
          refine wpAnyH_take (i := 9) (v := ?v9) (by simp only [List.getElem?_toArray, List.getElem?_cons_succ, List.getElem?_cons_zero]; rfl) (by kernel_rfl) (by kernel_rfl) (by kernel_rfl) (fun _ _ _ h => h) (Or.inl ⟨by rfl, ?h9⟩) hHeld ?r9
          case h9 => intro w hSw; (try dsimp only at hSw); go_simp; with_reducible rfl
          simp only [Act.put, List.setIfInBounds_toArray, List.set_cons_zero, List.set_cons_succ]
          refine wpAnyH_take (i := 10) (v := ?v10) (by simp only [List.getElem?_toArray, List.getElem?_cons_succ, List.getElem?_cons_zero]; rfl) (by kernel_rfl) (by kernel_rfl) (by kernel_rfl) (fun _ _ _ h => h) (Or.inl ⟨by rfl, ?h10⟩) hHeld ?r10
          case h10 => intro w hSw; (try dsimp only at hSw); go_simp; with_reducible rfl
          simp only [Act.put, List.setIfInBounds_toArray, List.set_cons_zero, List.set_cons_succ]
          refine wpAnyH_take (i := 11) (v := ?v11) (by simp only [List.getElem?_toArray, List.getElem?_cons_succ, List.getElem?_cons_zero]; rfl) (by kernel_rfl) (by kernel_rfl) (by kernel_rfl) (fun _ _ _ h => h) (Or.inl ⟨by rfl, ?h11⟩) hHeld ?r11
          case h11 => intro w hSw; (try dsimp only at hSw); go_simp; with_reducible rfl
          simp only [Act.put, List.setIfInBounds_toArray, List.set_cons_zero, List.set_cons_succ]
          refine wpAnyH_done (by kernel_rfl) ?_ _
          show Oper.wp _ _ _ _ _ _
          have b7 : Below wi.heap.size wi (wi.alloc (.cells #[.int .i64 fin, .slice A9 s.arcs.length c9] 40)).drew := (by repeat' (first | exact Below.refl _ _ | assumption | refine Below.drew ?_ | refine Below.alloc ?_ (by first | omega | (simp; done) | (simp; omega)) _ | refine Below.setCell ?_ (by first | omega | (simp; done) | (simp; omega)) _))
          have hz1 : w8.frozen? ⟨b, 1, none⟩ = false := by
            rw [World.frozen?_of_block (hg8.block b (by simp; omega) (fun e => hrb e.symm))]
            exact frozB b7 K1.out hbf
          have lg8 := World.block_lt_of_cell? _ _ z8
          go_simp
          refine NoPanic.normal ?_
          have HAV : Hid (OwnArcs (wi.alloc (.cells #[.int .i64 fin, .slice A9 s.arcs.length c9] 40)).drew b (.slice A9 s.arcs.length c9) (movS d s).arcs) := Lib.hid ((HI2.out.own.mono (by omega)).below b7 (Nat.le_refl _))
          have HAP : Hid (∀ i (hi : i < vs.length), Apart vs[i] (.slice A9 s.arcs.length c9)) := Lib.hid (fun i hi k' h1 h2 => by
            have := (HM.out.arcs_lt hi h1).2
            have := (HI2.out.own.lt k' h2).1
            omega)
          have hput := ((HM.out.keep bwi).keep b7).app (movS d s) (av := .slice A9 s.arcs.length c9) (k := d + k + 1) (W' := w8) HAV.out HAP.out (by rw [hls]) hg8 (by unfold movS; simp only; rw [HFIN.out]; exact ho8)
          rw [List.append_assoc, ← HMSK.out] at hput
          have HPUT := Lib.hid hput
          clear z8 z9 z10 hz1 hput
          go_wp2_with fail
          go_roundw
          case rel => exact ⟨k + 1, _, _, by omega, by go_num, HPUT.out.1, (HF.out.trans (BF.below (Below.step bwi b7) (by omega))).trans HPUT.out.2⟩
          case measure => simp [intOf]; omega
    · have hke : s0.take k = s0 := List.take_of_length_le (by omega)
      rw [hke] at hM
      have HM2 := Lib.hid hM
      clear hM hke HM
      go_wp2_with fail
      go_ret
      rw [HD.out]
      exact ⟨rfl, _, _, HM2.out, hF⟩
end Go.Proofs.Ytfikkpgigicepaa

namespace Go.Proofs.Ytfikkpgigicepaa
open Go.RowKit

def looseS (tt : Int) (s : StateL) : StateL := ⟨1000000001, s.arcs ++ if s.final = 1000000001 ∨ tt < 0 then [] else [⟨0, 0, s.final, tt⟩]⟩
def looseN (ss : List StateL) (f k : Nat) (tt : Int) : List StateL := ss.mapIdx fun i s => if f ≤ i ∧ i < f + k then looseS tt s else s
theorem looseN_len (ss : List StateL) (f k : Nat) (tt : Int) : (looseN ss f k tt).length = ss.length := by simp [looseN]
theorem looseN_zero (ss : List StateL) (f : Nat) (tt : Int) : looseN ss f 0 tt = ss := by
  apply List.ext_getElem?
  intro i
  simp only [looseN, List.getElem?_mapIdx]
  cases ss[i]? with
  | none => rfl
  | some s => simp; omega
theorem looseN_get (ss : List StateL) (f k : Nat) (tt : Int) (i : Nat) (hi : i < ss.length) : (looseN ss f k tt)[i]'(by rw [looseN_len]; exact hi) = if f ≤ i ∧ i < f + k then looseS tt ss[i] else ss[i] := by
  simp [looseN]
theorem looseN_succ (ss : List StateL) (f k : Nat) (tt : Int) (h : f + k < ss.length) : looseN ss f (k + 1) tt = (looseN ss f k tt).set (f + k) (looseS tt ss[f + k]) := by
  apply List.ext_getElem
  · simp [looseN]
  · intro i h1 h2
    rw [looseN_len] at h1
    rw [looseN_get _ _ _ _ i h1]
    by_cases e : f + k = i
    · subst e
      rw [List.getElem_set_self, if_pos (by omega)]
    · rw [List.getElem_set_ne e, looseN_get _ _ _ _ i h1]
      by_cases e2 : f ≤ i ∧ i < f + k
      · rw [if_pos e2, if_pos (by omega)]
      · rw [if_neg e2, if_neg (by omega)]
theorem set_eta {α : Type} (l : List α) (q : Nat) (h : q < l.length) (x : α) (e : l[q] = x) : l.set q x = l := by subst e; simp


set_option maxRecDepth 100000 in
theorem rboth_any (v1 v2 : Value) (m1 m2 : MachL) (w : World) (h1 : MachAt w v1 m1) (h2 : MachAt w v2 m2) (k1 : Valid m1) (k2 : Valid m2) :
    Calls Try.prog 45 #[v1, v2] w fun e w' => e = .returned (.int .i64 0) ∧ Below w.heap.size w w' := by
  have CH1 := Lib.hid (fun W' (hb : Below w.heap.size w W') => Check_ok v1 m1 W' (h1.below hb) k1)
  have CH2 := Lib.hid (fun W' (hb : Below w.heap.size w W') => Check_ok v2 m2 W' (h2.below hb) k2)
  obtain ⟨A1, c1, rfl, -⟩ := h1
  obtain ⟨A2, c2, rfl, -⟩ := h2
  go_enter Try.func45, Try.ntmps45
  go_wp2_with fail
  refine (CH1.out _ (by repeat' (first | exact Below.refl _ _ | assumption | refine Below.drew ?_ | refine Below.alloc ?_ (by first | omega | (simp; done) | (simp; omega)) _ | refine Below.setCell ?_ (by first | omega | (simp; done) | (simp; omega)) _))).mono ?_; rintro e w1 ⟨rfl, bel⟩; obtain ⟨c1, f1⟩ := bcell bel; have z1 := bel.size; simp at z1; (try have y0 : w.heap.size < w1.heap.size := by omega); (try have y1 : w.heap.size + 1 < w1.heap.size := by omega); (try have y2 : w.heap.size + 1 + 1 < w1.heap.size := by omega); (try have y3 : w.heap.size + 1 + 1 + 1 < w1.heap.size := by omega); (try have y4 : w.heap.size + 1 + 1 + 1 + 1 < w1.heap.size := by omega); (try have y5 : w.heap.size + 1 + 1 + 1 + 1 + 1 < w1.heap.size := by omega); (try have y6 : w.heap.size + 1 + 1 + 1 + 1 + 1 + 1 < w1.heap.size := by omega)
  go_wp2_with fail
  refine (CH2.out _ (by repeat' (first | exact Below.refl _ _ | assumption | refine Below.step ?_ bel | refine Below.drew ?_ | refine Below.alloc ?_ (by first | omega | (simp; done) | (simp; omega)) _ | refine Below.setCell ?_ (by first | omega | (simp; done) | (simp; omega)) _))).mono ?_; rintro e w2 ⟨rfl, b2⟩
  go_wp2_with fail
  go_ret
  exact ⟨rfl, Below.trans ((by repeat' (first | exact Below.refl _ _ | assumption | refine Below.step ?_ bel | refine Below.drew ?_ | refine Below.alloc ?_ (by first | omega | (simp; done) | (simp; omega)) _ | refine Below.setCell ?_ (by first | omega | (simp; done) | (simp; omega)) _)) : Below w.heap.size w w1) (b2.mono (by omega))⟩
end Go.Proofs.Ytfikkpgigicepaa
