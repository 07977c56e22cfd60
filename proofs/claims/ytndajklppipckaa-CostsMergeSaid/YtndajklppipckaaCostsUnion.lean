/- The whole ways of one machine or the other (plain). -/
import Derived.Test.YtndajklppipckaaCostsLaw
import Derived.Test.YtndajklppipckaaEmbGet
namespace Go.Proofs.Ytndajklppipckaa

section
variable {m M : MachL} {d : Nat}
theorem emb_arcs (h : Emb m M d) {q : Nat} (hq : q < m.states.length) : arcsAt M (d + q) = (arcsAt m q).map (movA d) := by
  have hg := List.getElem?_eq_getElem hq
  unfold arcsAt
  rw [h q _ hg, hg]; rfl
theorem emb_finI (h : Emb m M d) {q : Nat} (hq : q < m.states.length) : finI M (d + q) = finI m q := by
  have hg := List.getElem?_eq_getElem hq
  unfold finI
  rw [h q _ hg, hg]; rfl
theorem emb_pw (h : Emb m M d) (hv : Valid m) {s : Nat} (hs : s < m.states.length) : ∀ p, pw M (d + s) p = (pw m s p).map (fun x => (d + x.1, x.2)) := by
  intro p
  induction p with
  | nil => rfl
  | cons i p ih =>
    cases hp : pw m s p with
    | none =>
      rw [hp] at ih
      rw [pw_cons_none hp, pw_cons_none ih]; rfl
    | some y =>
      rw [hp] at ih
      have hq := pq_lt hv hs p y hp
      rw [pw_cons (q := y.1) (c := y.2) hp, pw_cons (q := d + y.1) (c := y.2) ih, emb_arcs h hq, List.getElem?_map]
      cases ha : (arcsAt m y.1)[i]? with
      | none => rfl
      | some a =>
        obtain ⟨hq', h2⟩ := arcsAt_lt (List.mem_of_getElem? ha)
        have := ((hv.st _ (List.getElem_mem hq')).2 a h2).t0
        simp only [Option.map_some, movA, Option.some.injEq, Prod.mk.injEq, and_true]
        omega
theorem emb_whole (h : Emb m M d) (hv : Valid m) {s : Nat} (hs : s < m.states.length) (p : List Nat) : (Whole M (d + s) p ↔ Whole m s p) ∧ (Whole m s p → wcost M (d + s) p = wcost m s p) := by
  have hp := emb_pw h hv hs p
  cases hx : pw m s p with
  | none =>
    rw [hx] at hp
    unfold Whole
    rw [hx, hp]
    simp
  | some x =>
    rw [hx] at hp
    simp only [Option.map_some] at hp
    have hq := pq_lt hv hs p x hx
    have e1 := pq_of hx; have e2 := pq_of hp
    unfold Whole wcost
    rw [e1.1, e1.2, e2.1, e2.2, hx, hp]
    simp only
    rw [emb_finI h hq]
    simp
/-- ways that begin with an arc -/
theorem whole_snoc {s q i : Nat} {c : Int} (h : pw M s [i] = some (q, c)) (p : List Nat) : (Whole M s (p ++ [i]) ↔ Whole M q p) ∧ (Whole M q p → wcost M s (p ++ [i]) = c + wcost M q p) := by
  have hp := pw_app (m := M) (s := s) [i] p
  rw [h] at hp
  simp only [Option.bind_some] at hp
  cases hx : pw M q p with
  | none =>
    rw [hx] at hp
    unfold Whole
    rw [hx, hp]
    simp
  | some x =>
    rw [hx] at hp
    simp only [Option.map_some] at hp
    have e1 := pq_of hx; have e2 := pq_of hp
    unfold Whole wcost
    rw [e1.1, e1.2, e2.1, e2.2, hx, hp]
    simp [Int.add_assoc]
end
section
variable {a b : MachL}
def uniW : List Nat ⊕ List Nat → List Nat := Sum.elim (fun p => p ++ [0]) (fun p => p ++ [1])
theorem union_pw (ha0 : 0 ≤ a.start) (hb0 : 0 ≤ b.start) : pw (unionM a b) 0 [0] = some (1 + a.start.toNat, 0) ∧ pw (unionM a b) 0 [1] = some (1 + a.states.length + b.start.toNat, 0) ∧ ∀ i, pw (unionM a b) 0 [i + 2] = none := by
  have hA : arcsAt (unionM a b) 0 = [⟨0, 0, 0, a.start + 1⟩, ⟨0, 0, 0, b.start + ((1 + a.states.length : Nat) : Int)⟩] := by
    unfold arcsAt
    rw [union_get0]
    unfold hopL
    rw [if_pos ha0, if_pos hb0]
    rfl
  have key : ∀ i, pw (unionM a b) 0 [i] = ((arcsAt (unionM a b) 0)[i]?).map (fun a => (a.to.toNat, 0 + a.wt)) := fun i => pw_cons (q := 0) (c := 0) rfl i
  refine ⟨?_, ?_, fun i => ?_⟩
  · rw [key, hA]; simp; omega
  · rw [key, hA]; simp; omega
  · rw [key, hA]; simp
theorem union_cheap (hva : Valid a) (hvb : Valid b) (ha0 : 0 ≤ a.start) (hb0 : 0 ≤ b.start) {n : Nat} {ps qs us : List (List Nat)} (hA : Cheap (Whole a a.start.toNat) (wcost a a.start.toNat) n ps) (hB : Cheap (Whole b b.start.toNat) (wcost b b.start.toNat) n qs)
    (hU : Cheap (Whole (unionM a b) 0) (wcost (unionM a b) 0) n us) : us.map (wcost (unionM a b) 0) = (mergeL id (ps.map (wcost a a.start.toNat)) (qs.map (wcost b b.start.toNat))).take n := by
  obtain ⟨u0, u1, u2⟩ := union_pw (a := a) (b := b) ha0 hb0
  have sa : a.start.toNat < a.states.length := by have := hva.s1; omega
  have sb : b.start.toNat < b.states.length := by have := hvb.s1; omega
  have eA := emb_whole (union_emb1 a b) hva sa
  have eB := emb_whole (union_emb2 a b) hvb sb
  obtain ⟨hM, hC⟩ := hA.merge hB
  have hT := hM.turn (W' := Whole (unionM a b) 0) (c' := wcost (unionM a b) 0) (t := 0) uniW ?_ ?_ ?_ ?_
  · have h1 := hU.one hT.1
    rw [h1, hT.2, hC]
    simp
  · intro x hx
    cases x with
    | inl p => exact (whole_snoc u0 p).1.2 ((eA p).1.2 hx)
    | inr p => exact (whole_snoc u1 p).1.2 ((eB p).1.2 hx)
  · intro x y _ _ he
    cases x with
    | inl p =>
      cases y with
      | inl q => have := List.append_inj' he rfl; rw [this.1]
      | inr q => have := List.append_inj' he rfl; simp at this
    | inr p =>
      cases y with
      | inl q => have := List.append_inj' he rfl; simp at this
      | inr q => have := List.append_inj' he rfl; rw [this.1]
  · intro p hp
    rcases List.eq_nil_or_concat p with rfl | ⟨p', i, rfl⟩
    · have h9 := hp.2
      have : finI (unionM a b) 0 = 1000000001 := by unfold finI; rw [union_get0]; rfl
      exact absurd this h9
    · rw [List.concat_eq_append] at hp ⊢
      match i, hp with
      | 0, hp => exact ⟨.inl p', (eA p').1.1 ((whole_snoc u0 p').1.1 hp), rfl⟩
      | 1, hp => exact ⟨.inr p', (eB p').1.1 ((whole_snoc u1 p').1.1 hp), rfl⟩
      | i + 2, hp =>
        have h9 := hp.1
        rw [pw_app, u2 i] at h9
        cases h9
  · intro x hx
    cases x with
    | inl p =>
      show wcost _ 0 (p ++ [0]) = wcost a _ p + 0
      rw [(whole_snoc u0 p).2 ((eA p).1.2 hx), (eA p).2 hx]; omega
    | inr p =>
      show wcost _ 0 (p ++ [1]) = wcost b _ p + 0
      rw [(whole_snoc u1 p).2 ((eB p).1.2 hx), (eB p).2 hx]; omega
theorem small_union (ha : Small a) (hb : Small b) : Small (unionM a b) := by
  intro s hs
  rcases union_mem a b hs with rfl | ⟨s0, h0, rfl⟩ | ⟨s0, h0, rfl⟩
  · refine ⟨.inl rfl, fun e he => ?_⟩
    rcases List.mem_append.1 he with h | h
    · rw [(hop_mem h).2]; simp
    · rw [(hop_mem h).2]; simp
  · refine ⟨(ha s0 h0).1, fun e he => ?_⟩
    obtain ⟨e0, h1, rfl⟩ := List.mem_map.1 he
    exact (ha s0 h0).2 e0 h1
  · refine ⟨(hb s0 h0).1, fun e he => ?_⟩
    obtain ⟨e0, h1, rfl⟩ := List.mem_map.1 he
    exact (hb s0 h0).2 e0 h1
theorem arcs_union {k : Nat} (hk : 2 ≤ k) (ha : ∀ s ∈ a.states, s.arcs.length ≤ k) (hb : ∀ s ∈ b.states, s.arcs.length ≤ k) : ∀ s ∈ (unionM a b).states, s.arcs.length ≤ k := by
  intro s hs
  rcases union_mem a b hs with rfl | ⟨s0, h0, rfl⟩ | ⟨s0, h0, rfl⟩
  · unfold hopL
    simp only [List.length_append]
    split <;> split <;> simp <;> omega
  · simpa [movS] using ha s0 h0
  · simpa [movS] using hb s0 h0
end
/-- one step of the merging -/
theorem merge_left {l r : List Int} {i j : Nat} (hi : i < l.length) (h : r.length ≤ j ∨ ∃ hj : j < r.length, l[i] ≤ r[j]) : mergeL id (l.drop i) (r.drop j) = l[i] :: mergeL id (l.drop (i + 1)) (r.drop j) := by
  rw [List.drop_eq_getElem_cons hi]
  rcases h with h | ⟨hj, h⟩
  · rw [List.drop_eq_nil_of_le h, mergeL_nil, mergeL_nil]
  · rw [List.drop_eq_getElem_cons hj, mergeL, if_pos (show id l[i] ≤ id r[j] from h)]
theorem merge_right {l r : List Int} {i j : Nat} (hj : j < r.length) (h : l.length ≤ i ∨ ∃ hi : i < l.length, ¬ l[i] ≤ r[j]) : mergeL id (l.drop i) (r.drop j) = r[j] :: mergeL id (l.drop i) (r.drop (j + 1)) := by
  rw [List.drop_eq_getElem_cons hj]
  rcases h with h | ⟨hi, h⟩
  · rw [List.drop_eq_nil_of_le h]; simp [mergeL]
  · rw [List.drop_eq_getElem_cons hi, mergeL, if_neg (show ¬ id l[i] ≤ id r[j] from h)]
end Go.Proofs.Ytndajklppipckaa
