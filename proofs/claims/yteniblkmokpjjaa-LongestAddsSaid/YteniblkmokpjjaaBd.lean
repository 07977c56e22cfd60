/- rational's builder: what it holds, what keeps it. -/
import Derived.Test.YteniblkmokpjjaaRev
namespace Go.Proofs.Yteniblkmokpjjaa
open Go.RowKit

/-- builder's box b: a machine's start and its row of states, of the call's own from b on; no row of arcs is another one's -/
structure BD (b : Nat) (W : World) (st : Int) (sv : Value) (vs : List Value) (ss : List StateL) : Prop where
  box : Blk W b #[.int .i64 st, sv] 87
  own : OwnStV W b sv vs ss
  apart : ∀ i j (hi : i < vs.length) (hj : j < vs.length), i ≠ j → Apart vs[i] vs[j]
/-- what a call on the builder leaves as it was -/
structure BF (b : Nat) (W W' : World) : Prop where
  bel : Below b W W'
  far : ∀ k cs t, Blk W k cs t → t ≠ 79 → t ≠ 46 → t ≠ 87 → Blk W' k cs t
section
variable {b : Nat} {W W' W2 : World} {st : Int} {sv : Value} {vs : List Value} {ss : List StateL}
theorem BF.refl (b : Nat) (W : World) : BF b W W := ⟨Below.refl _ _, fun _ _ _ h _ _ _ => h⟩
theorem BF.trans (h : BF b W W') (k : BF b W' W2) : BF b W W2 := ⟨h.bel.trans k.bel, fun k' cs t hB h1 h2 h3 => k.far k' cs t (h.far k' cs t hB h1 h2 h3) h1 h2 h3⟩
theorem BF.below (hb : Below W.heap.size W W') (hs : b ≤ W.heap.size) : BF b W W' := ⟨hb.mono hs, fun _ _ _ hB _ _ _ => hB.step hb⟩
theorem BD.keep (h : BD b W st sv vs ss) (hb : Below W.heap.size W W') : BD b W' st sv vs ss := ⟨h.box.step hb, h.own.below hb (Nat.le_refl _), h.apart⟩
theorem BD.lt (h : BD b W st sv vs ss) : b < W.heap.size := h.box.lt
theorem BD.form (h : BD b W st sv vs ss) : ∃ A c, sv = .slice A ss.length c ∧ ss.length ≤ c ∧ c ≤ maxLen := own_form h.own.row
theorem BD.row_ne (h : BD b W st sv vs ss) : sv.ownBlock ≠ some b := own_blk_ne h.own.row h.box (by decide)
theorem BD.arcs_ne (h : BD b W st sv vs ss) {i : Nat} (hi : i < ss.length) (hi' : i < vs.length) : vs[i].ownBlock ≠ some b := own_blk_ne (h.own.arcs i hi hi') h.box (by decide)
theorem BD.arcs_lt (h : BD b W st sv vs ss) {i : Nat} (hi : i < vs.length) {k : Nat} (hk : vs[i].ownBlock = some k) : b ≤ k ∧ k < W.heap.size := (h.own.arcs i (by rw [← h.own.len]; exact hi) hi).lt k hk
/-- a state is put behind -/
theorem BD.app (h : BD b W st sv vs ss) (s : StateL) {av : Value} (ha : OwnArcs W b av s.arcs) (hap : ∀ i (hi : i < vs.length), Apart vs[i] av)
    {v' : Value} {k : Nat} (hk : k = ss.length + 1) (hg : W.grownBy W' sv.ownBlock) (hx : W'.ownsRow b 46 2 v' k (statesCells ((ss.map (·.final)).zip vs) ++ [.int .i64 s.final, av])) :
    BD b (W'.setCell ⟨b, 1, none⟩ v') st v' (vs ++ [av]) (ss ++ [s]) ∧ BF b W (W'.setCell ⟨b, 1, none⟩ v') := by
  have ho : OwnStV W' b v' (vs ++ [av]) (ss ++ [s]) := h.own.app s ha hg hk hx
  have hbx : Blk W' b #[.int .i64 st, sv] 87 := h.box.grown hg h.row_ne.symm
  have hvb : v'.ownBlock ≠ some b := own_blk_ne ho.row hbx (by decide)
  refine ⟨⟨(hbx.put 1 _).eq (by simp), ?_, fun i j hi hj hij => ?_⟩, ?_, fun k cs t hB h1 h2 h3 => ?_⟩
  · refine ⟨ho.len, own_setCell ho.row (by simpa using hvb) _, fun i hi hi' => ?_⟩
    have := ho.arcs i hi hi'
    exact this.setCell (by simpa using own_blk_ne this hbx (by decide)) _
  · simp only [List.length_append, List.length_singleton] at hi hj
    by_cases e1 : i < vs.length
    · rw [List.getElem_append_left e1]
      by_cases e2 : j < vs.length
      · rw [List.getElem_append_left e2]; exact h.apart i j e1 e2 hij
      · rw [List.getElem_append_right (by omega)]; simpa using hap i e1
    · rw [List.getElem_append_right (by omega)]
      have : j < vs.length := by omega
      rw [List.getElem_append_left this]
      simpa using (hap j this).symm
  · have hbl := h.box.lt
    have hrow := h.own.row
    exact ((Below.refl b W).grown hg (by omega) (fun k hk => (hrow.lt k hk).1)).setCell (by simp) _
  · refine (hB.grown hg (own_blk_ne h.own.row hB (fun e => h2 e.symm)).symm).far (fun e => ?_) _
    simp only at e; subst e
    have := h.box; unfold Blk at this hB; rw [this] at hB; simp at hB; exact h3 hB.2.symm
/-- where the states lie -/
theorem BD.addr (h : BD b W st sv vs ss) (h0 : 0 < ss.length) : ∃ g c, sv = .slice (some ⟨g, 0, none⟩) ss.length c ∧ b ≤ g ∧ g < W.heap.size ∧ c ≤ maxLen := by
  rcases h.own.row.2 with ⟨_, e⟩ | ⟨g, cap, cur, rfl, hb, hg, _, hm, _⟩
  · omega
  · exact ⟨g, cap, rfl, hb, (Array.getElem?_eq_some_iff.1 hg).1, hm⟩
theorem BD.cell {g c : Nat} (h : BD b W st (.slice (some ⟨g, 0, none⟩) ss.length c) vs ss) {q : Nat} (hq : q < ss.length) : W.cell? ⟨g, q * 2 + 1, none⟩ = some (vs[q]'(by rw [h.own.len]; exact hq)) ∧ W.cell? ⟨g, q * 2, none⟩ = some (.int .i64 ss[q].final) := by
  have hqv : q < vs.length := by rw [h.own.len]; exact hq
  have r := Rd.of_own h.own.row
  have hz : ((ss.map (·.final)).zip vs).length = ss.length := by simp [h.own.len]
  have key : ∀ (j : Nat) (hj : j < 2), W.cell? ⟨g, q * 2 + j, none⟩ = (stCells (ss[q].final, vs[q]))[j]? := by
    intro j hj
    have e := flatMap_at stCells 2 (fun _ => rfl) ((ss.map (·.final)).zip vs) q (by omega) j hj
    simp only [List.getElem_zip, List.getElem_map] at e
    have hs : (stCells (ss[q].final, vs[q]))[j]? = some ((stCells (ss[q].final, vs[q]))[j]'hj) := List.getElem?_eq_getElem hj
    rw [hs] at e ⊢
    have := r.at' e
    simpa [blk_some, ofs_some] using this
  exact ⟨key 1 (by omega), key 0 (by omega)⟩
theorem BD.froz {g n c : Nat} (h : BD b W st (.slice (some ⟨g, 0, none⟩) n c) vs ss) (o : Nat) : W.frozen? ⟨g, o, none⟩ = false := by
  rcases h.own.row.2 with ⟨hv, _⟩ | ⟨g', cap, cur, hv, _, hh, _⟩
  · simp at hv
  · simp at hv; obtain ⟨rfl, -⟩ := hv
    simp [World.frozen?, hh]
theorem BD.arcs_row {g n c : Nat} (h : BD b W st (.slice (some ⟨g, 0, none⟩) n c) vs ss) {q : Nat} (hq : q < ss.length) (hq' : q < vs.length) : vs[q].ownBlock ≠ some g := by
  rcases own_ne (h.own.arcs q hq hq') h.own.row (by decide) with e | e
  · rw [e]; simp
  · simpa [Value.ownBlock] using e
/-- an arc is put to a state -/
theorem BD.add {g c : Nat} (h : BD b W st (.slice (some ⟨g, 0, none⟩) ss.length c) vs ss) (q : Nat) (hq : q < ss.length) (a : ArcL) {v' : Value} {k : Nat} (hk : k = ss[q].arcs.length + 1) (hg : W.grownBy W' (vs[q]'(by rw [h.own.len]; exact hq)).ownBlock)
    (hx : W'.ownsRow b 79 4 v' k (arcsCells ss[q].arcs ++ arcCells a)) (hat : ∀ x, v'.ownBlock = some x → (vs[q]'(by rw [h.own.len]; exact hq)).ownBlock = some x ∨ W.heap.size ≤ x) :
    BD b (W'.setCell ⟨g, q * 2 + 1, none⟩ v') st (.slice (some ⟨g, 0, none⟩) (addS ss (q, a)).length c) (vs.set q v') (addS ss (q, a)) ∧ BF b W (W'.setCell ⟨g, q * 2 + 1, none⟩ v') := by
  have hqv : q < vs.length := by rw [h.own.len]; exact hq
  have hgr : b ≤ g ∧ g < W.heap.size := h.own.row.lt g rfl
  have hgl := hgr.2
  have hvg : v'.ownBlock ≠ some g := fun e => by
    rcases hat g e with h1 | h1
    · exact h.arcs_row hq hqv h1
    · omega
  have ap : ∀ i (hi : i < vs.length), i ≠ q → Apart v' vs[i] := fun i hi hne k hk hk2 => by
    rcases hat k hk with h1 | h1
    · exact h.apart q i hqv hi (fun e => hne e.symm) k h1 hk2
    · have := (h.arcs_lt hi hk2).2; omega
  have kept : ∀ i (hi : i < ss.length) (hi' : i < vs.length), i ≠ q → OwnArcs W' b vs[i] ss[i].arcs := fun i hi hi' hne =>
    (h.own.arcs i hi hi').grown hg (by
      cases hb : (vs[i]).ownBlock with
      | none => exact .inl rfl
      | some k => exact .inr (fun e2 => h.apart i q hi' hqv hne k hb e2.symm))
  have hrow : W'.ownsRow b 46 2 (.slice (some ⟨g, 0, none⟩) ss.length c) ss.length (statesCells ((ss.map (·.final)).zip vs)) :=
    World.ownsRow.kept h.own.row hg (.inr (by simp only [Value.ownBlock]; exact (h.arcs_row hq hqv).symm))
  have hz : q < ((ss.map (·.final)).zip vs).length := by simp [h.own.len]; exact hq
  have hadd := addS_eq ss (q, a) hq
  simp only at hadd
  have hbx : Blk W' b #[.int .i64 st, .slice (some ⟨g, 0, none⟩) ss.length c] 87 := h.box.grown hg (h.arcs_ne hq hqv).symm
  have hgb : g ≠ b := fun e => h.row_ne (by simp [Value.ownBlock, e])
  refine ⟨⟨?_, ⟨by rw [addS_len]; simp [h.own.len], ?_, fun i hi hi' => ?_⟩, fun i j hi hj hij => ?_⟩, ?_, fun k cs t hB h1 h2 h3 => ?_⟩
  · rw [addS_len]
    exact hbx.far (by simpa using hgb.symm) _
  · have hr := (hrow.stored (q * 2 + 1) v').1
    rw [statesCells_set1 _ _ hz, zip_set_snd] at hr
    rw [addS_len, hadd, final_set _ _ hq]
    exact hr
  · rw [addS_len] at hi
    have hg2 := addS_get ss (q, a) hq i hi
    rw [hg2]
    by_cases e : q = i
    · subst e
      rw [if_pos rfl]
      simp only [List.getElem_set_self]
      subst hk
      have : OwnArcs W' b v' (ss[q].arcs ++ [a]) := by unfold OwnArcs; rw [arcsCells_snoc, List.length_append]; exact hx
      exact this.setCell (by simpa using hvg) _
    · rw [if_neg e, List.getElem_set_ne e]
      exact (kept i hi (by simpa using hi') (fun e' => e e'.symm)).setCell (by simpa using h.arcs_row hi (by simpa using hi')) _
  · by_cases e1 : q = i
    · subst e1
      simp only [List.getElem_set_self]
      rw [List.getElem_set_ne hij]
      exact ap j (by simpa using hj) (fun e => hij e.symm)
    · rw [List.getElem_set_ne e1]
      by_cases e2 : q = j
      · subst e2
        simp only [List.getElem_set_self]
        exact (ap i (by simpa using hi) (fun e => hij e)).symm
      · rw [List.getElem_set_ne e2]
        exact h.apart i j (by simpa using hi) (by simpa using hj) hij
  · have hbl := h.box.lt
    exact ((Below.refl b W).grown hg (by omega) (fun k hk => (h.arcs_lt hqv hk).1)).setCell (by simpa using hgr.1) _
  · refine (hB.grown hg (own_blk_ne (h.own.arcs q hq hqv) hB (fun e => h1 e.symm)).symm).far (fun e => ?_) _
    simp only at e; subst e
    exact own_blk_ne h.own.row hB (fun e => h2 e.symm) rfl
/-- a state's final becomes another one -/
theorem BD.setFinal {g c : Nat} (h : BD b W st (.slice (some ⟨g, 0, none⟩) ss.length c) vs ss) (q : Nat) (hq : q < ss.length) (f : Int) :
    BD b (W.setCell ⟨g, q * 2, none⟩ (.int .i64 f)) st (.slice (some ⟨g, 0, none⟩) ss.length c) vs (ss.set q ⟨f, ss[q].arcs⟩) ∧ BF b W (W.setCell ⟨g, q * 2, none⟩ (.int .i64 f)) := by
  have hgr : b ≤ g ∧ g < W.heap.size := h.own.row.lt g rfl
  have hgb : g ≠ b := fun e => h.row_ne (by simp [Value.ownBlock, e])
  refine ⟨⟨h.box.far (by simpa using hgb.symm) _, h.own.setFinal q hq f, h.apart⟩, (Below.refl b W).setCell (by simpa using hgr.1) _, fun k cs t hB h1 h2 h3 => hB.far (fun e => ?_) _⟩
  simp only at e; subst e
  exact own_blk_ne h.own.row hB (fun e => h2 e.symm) rfl
end
end Go.Proofs.Yteniblkmokpjjaa
