/- The n cheapest of some things (plain). -/
import Derived.Test.YtndajklppipckaaCostsPlain
namespace Go.Proofs.Ytndajklppipckaa

structure Cheap {α : Type} (W : α → Prop) (c : α → Int) (n : Nat) (ps : List α) : Prop where
  nd : ps.Nodup
  all : ∀ p ∈ ps, W p
  len : ps.length ≤ n
  srt : ps.Pairwise (fun a b => c a ≤ c b)
  told : ∀ x, W x → x ∈ ps ∨ (ps.length = n ∧ ∀ p ∈ ps, c p ≤ c x)
section
variable {α β : Type} {W : α → Prop} {c : α → Int} {n : Nat} {ps : List α}
theorem sorted_at {ps : List α} (hs : ps.Pairwise (fun a b => c a ≤ c b)) {i j : Nat} (hi : i < ps.length) (hj : j < ps.length) (hij : i ≤ j) : c ps[i] ≤ c ps[j] := by
  rcases Nat.lt_or_ge i j with h | h
  · exact List.pairwise_iff_getElem.1 hs i j hi hj h
  · obtain rfl : i = j := by omega
    omega
theorem sorted_before {ps : List α} (hs : ps.Pairwise (fun a b => c a ≤ c b)) {k : Nat} (hk : k < ps.length) {y : α} (hy : y ∈ ps) (hlt : c y < c ps[k]) : y ∈ ps.take k := by
  obtain ⟨j, hj, rfl⟩ := List.getElem_of_mem hy
  rcases Nat.lt_or_ge j k with h | h
  · rw [List.mem_take_iff_getElem]
    exact ⟨j, by omega, rfl⟩
  · have := sorted_at hs hk hj h
    omega
theorem cheap_of {ms : List α} (hn : ms.Nodup) (ha : ∀ p ∈ ms, W p) (hs : ms.Pairwise (fun a b => c a ≤ c b))
    (ht : ∀ x, W x → x ∈ ms ∨ ∃ xs : List α, xs.Nodup ∧ xs.length = n ∧ ∀ z ∈ xs, z ∈ ms ∧ c z ≤ c x) : Cheap W c n (ms.take n) := by
  classical
  refine ⟨hn.sublist (List.take_sublist _ _), fun p hp => ha p (List.mem_of_mem_take hp), by rw [List.length_take]; omega, hs.sublist (List.take_sublist _ _), fun x hx => ?_⟩
  by_cases hm : x ∈ ms.take n
  · exact .inl hm
  right
  have h1 : n ≤ ms.length ∧ ∀ k, (hk : k < ms.length) → k < n → c ms[k] ≤ c x := by
    rcases ht x hx with h | ⟨xs, h2, h3, h4⟩
    · obtain ⟨j, hj, rfl⟩ := List.getElem_of_mem h
      have hjn : n ≤ j := by
        apply Classical.byContradiction
        intro hc
        exact hm (List.mem_take_iff_getElem.2 ⟨j, by omega, rfl⟩)
      exact ⟨by omega, fun k hk hkn => sorted_at hs hk hj (by omega)⟩
    · have h5 := nodup_sub_len xs ms h2 (fun z hz => (h4 z hz).1)
      refine ⟨by omega, fun k hk hkn => ?_⟩
      apply Classical.byContradiction
      intro hc
      have h6 := nodup_sub_len xs (ms.take k) h2 (fun z hz => sorted_before hs hk (h4 z hz).1 (by have := (h4 z hz).2; omega))
      rw [List.length_take] at h6
      omega
  refine ⟨by rw [List.length_take]; omega, fun p hp => ?_⟩
  obtain ⟨k, hk, rfl⟩ := List.mem_take_iff_getElem.1 hp
  exact h1.2 k (by omega) (by omega)
theorem Cheap.take (h : Cheap W c n ps) {k : Nat} (hk : k ≤ n) : Cheap W c k (ps.take k) :=
  cheap_of h.nd h.all h.srt (fun x hx => (h.told x hx).imp id (fun ⟨h1, h2⟩ => ⟨ps.take k, h.nd.sublist (List.take_sublist _ _), by rw [List.length_take]; omega, fun z hz => ⟨List.mem_of_mem_take hz, h2 z (List.mem_of_mem_take hz)⟩⟩))
theorem Cheap.len_le (h : Cheap W c n ps) {qs : List α} (h' : Cheap W c n qs) : ps.length ≤ qs.length := by
  classical
  apply Classical.byContradiction
  intro hc
  have h1 := h.len
  have h2 := nodup_sub_len ps qs h.nd (fun x hx => (h'.told x (h.all x hx)).resolve_right (fun g => by omega))
  omega
theorem Cheap.at_le (h : Cheap W c n ps) {qs : List α} (h' : Cheap W c n qs) {i : Nat} (hi : i < ps.length) (hj : i < qs.length) : c ps[i] ≤ c qs[i] := by
  classical
  apply Classical.byContradiction
  intro hc
  have h1 := nodup_sub_len (qs.take (i + 1)) (ps.take i) (h'.nd.sublist (List.take_sublist _ _)) (fun x hx => by
    obtain ⟨k, hk, rfl⟩ := List.mem_take_iff_getElem.1 hx
    have h2 := sorted_at h'.srt (show k < qs.length by omega) hj (by omega)
    have h3 := (h.told _ (h'.all _ (List.getElem_mem (show k < qs.length by omega)))).resolve_right (fun g => by
      have := g.2 _ (List.getElem_mem hi)
      omega)
    exact sorted_before h.srt hi h3 (by omega))
  rw [List.length_take, List.length_take] at h1
  omega
/-- what the cheapest cost -/
theorem Cheap.one (h : Cheap W c n ps) {qs : List α} (h' : Cheap W c n qs) : ps.map c = qs.map c := by
  have h1 := h.len_le h'
  have h2 := h'.len_le h
  apply List.ext_getElem (by simp; omega)
  intro i h3 h4
  simp only [List.length_map] at h3 h4
  rw [List.getElem_map, List.getElem_map]
  have := h.at_le h' h3 h4
  have := h'.at_le h h4 h3
  omega
/-- of things that are told by others -/
theorem Cheap.turn (h : Cheap W c n ps) {W' : β → Prop} {c' : β → Int} {t : Int} (f : α → β) (h1 : ∀ a, W a → W' (f a)) (h2 : ∀ a a', W a → W a' → f a = f a' → a = a') (h3 : ∀ b, W' b → ∃ a, W a ∧ f a = b) (h4 : ∀ a, W a → c' (f a) = c a + t) : Cheap W' c' n (ps.map f) ∧ (ps.map f).map c' = (ps.map c).map (· + t) := by
  refine ⟨⟨?_, ?_, by rw [List.length_map]; exact h.len, ?_, ?_⟩, ?_⟩
  · refine List.pairwise_map.2 (List.Pairwise.imp_of_mem ?_ h.nd)
    intro a b ha hb hne he
    exact hne (h2 a b (h.all a ha) (h.all b hb) he)
  · intro p hp
    obtain ⟨a, ha, rfl⟩ := List.mem_map.1 hp
    exact h1 a (h.all a ha)
  · refine List.pairwise_map.2 (List.Pairwise.imp_of_mem ?_ h.srt)
    intro a b ha hb hne
    rw [h4 a (h.all a ha), h4 b (h.all b hb)]
    omega
  · intro x hx
    obtain ⟨a, ha, rfl⟩ := h3 x hx
    rcases h.told a ha with h5 | ⟨h5, h6⟩
    · exact .inl (List.mem_map.2 ⟨a, h5, rfl⟩)
    · right
      refine ⟨by rw [List.length_map]; exact h5, fun p hp => ?_⟩
      obtain ⟨b, hb, rfl⟩ := List.mem_map.1 hp
      rw [h4 a ha, h4 b (h.all b hb)]
      have := h6 b hb
      omega
  · rw [List.map_map, List.map_map]
    apply List.map_congr_left
    intro a ha
    exact h4 a (h.all a ha)
end
/-- two rising lists, merged -/
def mergeL {γ : Type} (c : γ → Int) : List γ → List γ → List γ
  | [], r => r
  | a :: l, [] => a :: l
  | a :: l, b :: r => if c a ≤ c b then a :: mergeL c l (b :: r) else b :: mergeL c (a :: l) r
termination_by l r => l.length + r.length
theorem mergeL_nil {γ : Type} (c : γ → Int) (l : List γ) : mergeL c l [] = l := by cases l <;> simp [mergeL]
theorem mergeL_perm {γ : Type} (c : γ → Int) (l r : List γ) : (mergeL c l r).Perm (l ++ r) := by
  induction l, r using mergeL.induct c with
  | case1 r => simp [mergeL]
  | case2 a l => simp [mergeL]
  | case3 a l b r h ih => rw [mergeL, if_pos h]; exact ih.cons a
  | case4 a l b r h ih =>
    rw [mergeL, if_neg h]
    exact (ih.cons b).trans (List.perm_middle (l₁ := a :: l)).symm
theorem mergeL_sorted {γ : Type} (c : γ → Int) (l r : List γ) : l.Pairwise (fun a b => c a ≤ c b) → r.Pairwise (fun a b => c a ≤ c b) → (mergeL c l r).Pairwise (fun a b => c a ≤ c b) := by
  induction l, r using mergeL.induct c with
  | case1 r => intro _ h; simpa [mergeL] using h
  | case2 a l => intro h _; simpa [mergeL] using h
  | case3 a l b r h ih =>
    intro h1 h2
    rw [mergeL, if_pos h]
    obtain ⟨g1, g2⟩ := List.pairwise_cons.1 h1
    obtain ⟨g3, g4⟩ := List.pairwise_cons.1 h2
    refine List.pairwise_cons.2 ⟨fun x hx => ?_, ih g2 h2⟩
    rcases List.mem_append.1 ((mergeL_perm c _ _).mem_iff.1 hx) with hx | hx
    · exact g1 x hx
    · rcases List.mem_cons.1 hx with rfl | hx
      · exact h
      · have := g3 x hx; omega
  | case4 a l b r h ih =>
    intro h1 h2
    rw [mergeL, if_neg h]
    obtain ⟨g1, g2⟩ := List.pairwise_cons.1 h1
    obtain ⟨g3, g4⟩ := List.pairwise_cons.1 h2
    refine List.pairwise_cons.2 ⟨fun x hx => ?_, ih h1 g4⟩
    rcases List.mem_append.1 ((mergeL_perm c _ _).mem_iff.1 hx) with hx | hx
    · rcases List.mem_cons.1 hx with rfl | hx
      · omega
      · have := g1 x hx; omega
    · exact g3 x hx
theorem mergeL_map {γ : Type} (c : γ → Int) (l r : List γ) : (mergeL c l r).map c = mergeL id (l.map c) (r.map c) := by
  induction l, r using mergeL.induct c with
  | case1 r => simp [mergeL]
  | case2 a l => simp [mergeL]
  | case3 a l b r h ih =>
    rw [mergeL, if_pos h]
    simp only [List.map_cons] at ih ⊢
    rw [mergeL, if_pos (show id (c a) ≤ id (c b) from h), ih]
  | case4 a l b r h ih =>
    rw [mergeL, if_neg h]
    simp only [List.map_cons] at ih ⊢
    rw [mergeL, if_neg (show ¬ id (c a) ≤ id (c b) from h), ih]
/-- the cheapest of both -/
theorem Cheap.merge {α β : Type} {W : α → Prop} {c : α → Int} {W' : β → Prop} {c' : β → Int} {n : Nat} {ps : List α} {qs : List β} (h : Cheap W c n ps) (h' : Cheap W' c' n qs) :
    Cheap (Sum.elim W W') (Sum.elim c c') n ((mergeL (Sum.elim c c') (ps.map .inl) (qs.map .inr)).take n) ∧ ((mergeL (Sum.elim c c') (ps.map .inl) (qs.map .inr)).take n).map (Sum.elim c c') = (mergeL id (ps.map c) (qs.map c')).take n := by
  have hp := mergeL_perm (Sum.elim c c') (ps.map .inl) (qs.map .inr)
  have n1 : (ps.map (Sum.inl : α → α ⊕ β)).Nodup := List.pairwise_map.2 (h.nd.imp (fun hne he => hne (Sum.inl.inj he)))
  have n2 : (qs.map (Sum.inr : β → α ⊕ β)).Nodup := List.pairwise_map.2 (h'.nd.imp (fun hne he => hne (Sum.inr.inj he)))
  constructor
  · refine cheap_of ?_ ?_ ?_ ?_
    · refine hp.nodup_iff.2 (List.nodup_append.2 ⟨n1, n2, ?_⟩)
      intro a ha b hb he
      obtain ⟨x, -, rfl⟩ := List.mem_map.1 ha
      obtain ⟨y, -, rfl⟩ := List.mem_map.1 hb
      cases he
    · intro p hp'
      rcases List.mem_append.1 (hp.mem_iff.1 hp') with hx | hx
      · obtain ⟨x, hx2, rfl⟩ := List.mem_map.1 hx
        exact h.all x hx2
      · obtain ⟨x, hx2, rfl⟩ := List.mem_map.1 hx
        exact h'.all x hx2
    · refine mergeL_sorted _ _ _ (List.pairwise_map.2 h.srt) (List.pairwise_map.2 h'.srt)
    · intro x hx
      cases x with
      | inl x =>
        rcases h.told x hx with h1 | ⟨h1, h2⟩
        · exact .inl (hp.mem_iff.2 (List.mem_append.2 (.inl (List.mem_map.2 ⟨x, h1, rfl⟩))))
        · right
          refine ⟨ps.map .inl, n1, by rw [List.length_map]; exact h1, fun z hz => ⟨hp.mem_iff.2 (List.mem_append.2 (.inl hz)), ?_⟩⟩
          obtain ⟨y, hy, rfl⟩ := List.mem_map.1 hz
          exact h2 y hy
      | inr x =>
        rcases h'.told x hx with h1 | ⟨h1, h2⟩
        · exact .inl (hp.mem_iff.2 (List.mem_append.2 (.inr (List.mem_map.2 ⟨x, h1, rfl⟩))))
        · right
          refine ⟨qs.map .inr, n2, by rw [List.length_map]; exact h1, fun z hz => ⟨hp.mem_iff.2 (List.mem_append.2 (.inr hz)), ?_⟩⟩
          obtain ⟨y, hy, rfl⟩ := List.mem_map.1 hz
          exact h2 y hy
  · rw [List.map_take, mergeL_map, List.map_map, List.map_map]
    rfl
end Go.Proofs.Ytndajklppipckaa
