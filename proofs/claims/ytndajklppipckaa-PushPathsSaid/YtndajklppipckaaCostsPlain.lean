/- The n cheapest of all whole ways: what best.Costs holds on its way (plain, over any beginnings). -/
/- The n cheapest of some things (plain). -/
/- Whole ways of a machine, by the numbers of their arcs, the last one first; what best.Costs holds on its way (plain). -/
/- best.Costs' loop, plain: what it holds over any beginnings. -/
/- best.Costs' loop, plain: over a machine, and with its heap. -/
import Derived.ProofKit
import Derived.Test.YtndajklppipckaaRows
import Derived.Test.YtndajklppipckaaMem
import Derived.Test.YtndajklppipckaaDistLaw
import Derived.Test.YtndajklppipckaaWays
namespace Go.Proofs.Ytndajklppipckaa

/-- beginnings are lists of arc numbers, the last one first -/
structure Begs where
  V : List Nat → Prop
  q : List Nat → Nat
  c : List Nat → Int
  E : Nat → Prop
  fin : Nat → Int
  d : Nat → Int
  /-- what may follow one beginning may follow another one at the same state -/
  same : ∀ e p p', q p = q p' → V p' → V (e ++ p) → V (e ++ p') ∧ q (e ++ p') = q (e ++ p) ∧ c (e ++ p') - c p' = c (e ++ p) - c p
  /-- d is no more than what an end costs -/
  low : ∀ e p, V (e ++ p) → E (q (e ++ p)) → c p + d (q p) ≤ c (e ++ p) + fin (q (e ++ p))
  back : ∀ e p, V (e ++ p) → V p
/-- what a whole way costs -/
def Begs.cost (b : Begs) (w : List Nat) : Int := b.c w + b.fin (b.q w)
/-- O: beginnings in the heap, EN: ended ways in it, ex: taken out and led on, Dr: taken out and dropped, ps: emitted, v: how far it has come -/
structure CInv (b : Begs) (n : Nat) (O EN ex Dr ps : List (List Nat)) (v : Int) : Prop where
  cov0 : b.V [] → [] ∈ O ∨ [] ∈ ex ∨ [] ∈ Dr
  cov : ∀ p ∈ ex, ∀ i, b.V (i :: p) → (i :: p) ∈ O ∨ (i :: p) ∈ ex ∨ (i :: p) ∈ Dr
  cove : ∀ p ∈ ex, b.E (b.q p) → p ∈ EN ∨ p ∈ ps
  drop : ∀ p ∈ Dr, ∃ xs : List (List Nat), xs.Nodup ∧ xs.length = n ∧ ∀ x ∈ xs, x ∈ ex ∧ b.q x = b.q p ∧ b.c x ≤ b.c p
  lo : ∀ p ∈ O, v ≤ b.c p + b.d (b.q p)
  loe : ∀ p ∈ EN, v ≤ b.cost p
  hi : ∀ p ∈ ps, b.cost p ≤ v
  vx : ∀ p ∈ ex, b.V p
  nd : ps.Nodup
  len : ps.length ≤ n
theorem nodup_sub_len {α : Type} [DecidableEq α] : ∀ (l l' : List α), l.Nodup → (∀ x ∈ l, x ∈ l') → l.length ≤ l'.length := by
  intro l
  induction l with
  | nil => intro l' _ _; simp
  | cons a l ih =>
    intro l' hn hs
    obtain ⟨h1, h2⟩ := List.nodup_cons.1 hn
    have h3 := ih (l'.erase a) h2 (fun x hx => by
      have h4 := hs x (by simp [hx])
      exact (List.mem_erase_of_ne (fun (e : x = a) => by subst e; exact h1 hx)).2 h4)
    have h5 := List.length_erase_of_mem (hs a (by simp))
    have h6 := List.length_pos_of_mem (hs a (by simp))
    rw [List.length_cons]
    omega
/-- of two lists without doubles, one in the other and as long, the other has no more -/
theorem nodup_all {α : Type} [DecidableEq α] (l l' : List α) (hn : l.Nodup) (hs : ∀ x ∈ l, x ∈ l') (hl : l'.length ≤ l.length) : ∀ x ∈ l', x ∈ l := by
  intro x hx
  apply Classical.byContradiction
  intro hne
  have h1 := nodup_sub_len (x :: l) l' (List.nodup_cons.2 ⟨hne, hn⟩) (fun y hy => by
    rcases List.mem_cons.1 hy with rfl | hy
    · exact hx
    · exact hs y hy)
  rw [List.length_cons] at h1
  omega
section
variable {b : Begs} {n : Nat} {O EN ex Dr ps : List (List Nat)} {v : Int}
/-- w is emitted, or n are that cost no more -/
def Told (b : Begs) (n : Nat) (ps : List (List Nat)) (w : List Nat) : Prop := w ∈ ps ∨ (ps.length = n ∧ ∀ p ∈ ps, b.cost p ≤ b.cost w)
/-- a dropped beginning -/
theorem CInv.dropTold' (h : CInv b n O EN ex Dr ps v) {e p : List Nat} (hp : p ∈ Dr) (hv : b.V (e ++ p)) (_ : b.E (b.q (e ++ p))) (hx : ∀ p, b.V (e ++ p) → b.E (b.q (e ++ p)) → p ∈ ex → Told b n ps (e ++ p)) : Told b n ps (e ++ p) := by
  rename_i he
  obtain ⟨xs, h1, h2, h3⟩ := h.drop p hp
  have key : ∀ x ∈ xs, b.V (e ++ x) ∧ b.E (b.q (e ++ x)) ∧ b.cost (e ++ x) ≤ b.cost (e ++ p) := fun x hxs => by
    obtain ⟨g1, g2, g3⟩ := h3 x hxs
    obtain ⟨f1, f2, f3⟩ := b.same e p x g2.symm (h.vx x g1) hv
    refine ⟨f1, by rw [f2]; exact he, ?_⟩
    unfold Begs.cost
    rw [f2]
    omega
  by_cases hall : ∀ x ∈ xs, e ++ x ∈ ps
  · right
    have hn1 : (xs.map (fun x => e ++ x)).Nodup := by
      exact List.pairwise_map.2 (h1.imp (fun hne he => hne (List.append_cancel_left he)))
    have hs1 : ∀ y ∈ xs.map (fun x => e ++ x), y ∈ ps := fun y hy => by
      obtain ⟨x, hx1, rfl⟩ := List.mem_map.1 hy
      exact hall x hx1
    have hl1 := nodup_sub_len _ _ hn1 hs1
    rw [List.length_map, h2] at hl1
    have hln := h.len
    refine ⟨by omega, fun y hy => ?_⟩
    have hy2 := nodup_all _ _ hn1 hs1 (by rw [List.length_map, h2]; exact hln) y hy
    obtain ⟨x, hx1, rfl⟩ := List.mem_map.1 hy2
    exact (key x hx1).2.2
  · obtain ⟨x, hx1⟩ := Classical.not_forall.1 hall
    obtain ⟨hx2, hx3⟩ := Classical.not_imp.1 hx1
    obtain ⟨g1, g2, g3⟩ := key x hx2
    rcases hx x g1 g2 (h3 x hx2).1 with h9 | ⟨h9, h10⟩
    · exact absurd h9 hx3
    · exact .inr ⟨h9, fun y hy => Int.le_trans (h10 y hy) g3⟩
theorem CInv.told (h : CInv b n O EN ex Dr ps v) (hend : (O = [] ∧ EN = []) ∨ ps.length = n) : ∀ (k : Nat) (e p : List Nat), e.length ≤ k → b.V (e ++ p) → b.E (b.q (e ++ p)) → (p ∈ O ∨ p ∈ ex ∨ p ∈ Dr) → Told b n ps (e ++ p) := by
  have hO : ∀ e p, b.V (e ++ p) → b.E (b.q (e ++ p)) → p ∈ O → Told b n ps (e ++ p) := fun e p hv he hp => by
    right
    refine ⟨hend.resolve_left (fun g => by rw [g.1] at hp; cases hp), fun x hx => ?_⟩
    have h1 := h.hi x hx
    have h2 := h.lo p hp
    have h3 := b.low e p hv he
    unfold Begs.cost at *
    omega
  intro k
  induction k with
  | zero =>
    intro e p hk hv he hp
    have e0 : e = [] := List.eq_nil_of_length_eq_zero (by omega)
    subst e0
    have hx : ∀ p, b.V p → b.E (b.q p) → p ∈ ex → Told b n ps p := fun p hv he hp => by
      rcases h.cove p hp he with h1 | h1
      · right
        refine ⟨hend.resolve_left (fun g => by rw [g.2] at h1; cases h1), fun x hx => ?_⟩
        have h2 := h.hi x hx
        have h3 := h.loe p h1
        omega
      · exact .inl h1
    rcases hp with hp | hp | hp
    · exact hO [] p hv he hp
    · exact hx p hv he hp
    · exact h.dropTold' (e := []) hp hv he hx
  | succ k ih =>
    intro e p hk hv he hp
    have hx : ∀ p, b.V (e ++ p) → b.E (b.q (e ++ p)) → p ∈ ex → Told b n ps (e ++ p) := fun p hv he hp => by
      rcases Nat.lt_or_ge k e.length with hlt | hge
      · obtain ⟨e', i, rfl⟩ : ∃ e' i, e = e' ++ [i] := ⟨_, _, (List.dropLast_concat_getLast (fun e0 => by rw [e0] at hlt; simp at hlt)).symm⟩
        have e1 : e' ++ [i] ++ p = e' ++ (i :: p) := by simp
        rw [e1] at hv he ⊢
        exact ih e' (i :: p) (by simp at hk; omega) hv he (h.cov p hp i (b.back e' _ hv))
      · exact ih e p hge hv he (.inr (.inl hp))
    rcases hp with hp | hp | hp
    · exact hO e p hv he hp
    · exact hx p hv he hp
    · exact h.dropTold' hp hv he hx
end
end Go.Proofs.Ytndajklppipckaa

namespace Go.Proofs.Ytndajklppipckaa

structure Cheap {α : Type} (W : α → Prop) (c : α → Int) (n : Nat) (ps : List α) : Prop where
  nd : ps.Nodup
  all : ∀ p ∈ ps, W p
  len : ps.length ≤ n
  srt : ps.Pairwise (fun a b => c a ≤ c b)
  told : ∀ x, W x → x ∈ ps ∨ (ps.length = n ∧ ∀ p ∈ ps, c p ≤ c x)
section
variable {α β : Type} {W : α → Prop} {c : α → Int} {n : Nat} {ps : List α}
theorem sorted_at {ps : List α} (hs : ps.Pairwise (fun a b => c a ≤ c b)) {i j : Nat} (hi : i < ps.length) (hj : j < ps.length) (hij : i ≤ j) : c ps[i] ≤ c ps[j] := by
  rcases Nat.lt_or_ge i j with h | h
  · exact List.pairwise_iff_getElem.1 hs i j hi hj h
  · obtain rfl : i = j := by omega
    omega
theorem sorted_before {ps : List α} (hs : ps.Pairwise (fun a b => c a ≤ c b)) {k : Nat} (hk : k < ps.length) {y : α} (hy : y ∈ ps) (hlt : c y < c ps[k]) : y ∈ ps.take k := by
  obtain ⟨j, hj, rfl⟩ := List.getElem_of_mem hy
  rcases Nat.lt_or_ge j k with h | h
  · rw [List.mem_take_iff_getElem]
    exact ⟨j, by omega, rfl⟩
  · have := sorted_at hs hk hj h
    omega
theorem cheap_of {ms : List α} (hn : ms.Nodup) (ha : ∀ p ∈ ms, W p) (hs : ms.Pairwise (fun a b => c a ≤ c b))
    (ht : ∀ x, W x → x ∈ ms ∨ ∃ xs : List α, xs.Nodup ∧ xs.length = n ∧ ∀ z ∈ xs, z ∈ ms ∧ c z ≤ c x) : Cheap W c n (ms.take n) := by
  classical
  refine ⟨hn.sublist (List.take_sublist _ _), fun p hp => ha p (List.mem_of_mem_take hp), by rw [List.length_take]; omega, hs.sublist (List.take_sublist _ _), fun x hx => ?_⟩
  by_cases hm : x ∈ ms.take n
  · exact .inl hm
  right
  have h1 : n ≤ ms.length ∧ ∀ k, (hk : k < ms.length) → k < n → c ms[k] ≤ c x := by
    rcases ht x hx with h | ⟨xs, h2, h3, h4⟩
    · obtain ⟨j, hj, rfl⟩ := List.getElem_of_mem h
      have hjn : n ≤ j := by
        apply Classical.byContradiction
        intro hc
        exact hm (List.mem_take_iff_getElem.2 ⟨j, by omega, rfl⟩)
      exact ⟨by omega, fun k hk hkn => sorted_at hs hk hj (by omega)⟩
    · have h5 := nodup_sub_len xs ms h2 (fun z hz => (h4 z hz).1)
      refine ⟨by omega, fun k hk hkn => ?_⟩
      apply Classical.byContradiction
      intro hc
      have h6 := nodup_sub_len xs (ms.take k) h2 (fun z hz => sorted_before hs hk (h4 z hz).1 (by have := (h4 z hz).2; omega))
      rw [List.length_take] at h6
      omega
  refine ⟨by rw [List.length_take]; omega, fun p hp => ?_⟩
  obtain ⟨k, hk, rfl⟩ := List.mem_take_iff_getElem.1 hp
  exact h1.2 k (by omega) (by omega)
theorem Cheap.take (h : Cheap W c n ps) {k : Nat} (hk : k ≤ n) : Cheap W c k (ps.take k) :=
  cheap_of h.nd h.all h.srt (fun x hx => (h.told x hx).imp id (fun ⟨h1, h2⟩ => ⟨ps.take k, h.nd.sublist (List.take_sublist _ _), by rw [List.length_take]; omega, fun z hz => ⟨List.mem_of_mem_take hz, h2 z (List.mem_of_mem_take hz)⟩⟩))
theorem Cheap.len_le (h : Cheap W c n ps) {qs : List α} (h' : Cheap W c n qs) : ps.length ≤ qs.length := by
  classical
  apply Classical.byContradiction
  intro hc
  have h1 := h.len
  have h2 := nodup_sub_len ps qs h.nd (fun x hx => (h'.told x (h.all x hx)).resolve_right (fun g => by omega))
  omega
theorem Cheap.at_le (h : Cheap W c n ps) {qs : List α} (h' : Cheap W c n qs) {i : Nat} (hi : i < ps.length) (hj : i < qs.length) : c ps[i] ≤ c qs[i] := by
  classical
  apply Classical.byContradiction
  intro hc
  have h1 := nodup_sub_len (qs.take (i + 1)) (ps.take i) (h'.nd.sublist (List.take_sublist _ _)) (fun x hx => by
    obtain ⟨k, hk, rfl⟩ := List.mem_take_iff_getElem.1 hx
    have h2 := sorted_at h'.srt (show k < qs.length by omega) hj (by omega)
    have h3 := (h.told _ (h'.all _ (List.getElem_mem (show k < qs.length by omega)))).resolve_right (fun g => by
      have := g.2 _ (List.getElem_mem hi)
      omega)
    exact sorted_before h.srt hi h3 (by omega))
  rw [List.length_take, List.length_take] at h1
  omega
/-- what the cheapest cost -/
theorem Cheap.one (h : Cheap W c n ps) {qs : List α} (h' : Cheap W c n qs) : ps.map c = qs.map c := by
  have h1 := h.len_le h'
  have h2 := h'.len_le h
  apply List.ext_getElem (by simp; omega)
  intro i h3 h4
  simp only [List.length_map] at h3 h4
  rw [List.getElem_map, List.getElem_map]
  have := h.at_le h' h3 h4
  have := h'.at_le h h4 h3
  omega
/-- of things that are told by others -/
theorem Cheap.turn (h : Cheap W c n ps) {W' : β → Prop} {c' : β → Int} {t : Int} (f : α → β) (h1 : ∀ a, W a → W' (f a)) (h2 : ∀ a a', W a → W a' → f a = f a' → a = a') (h3 : ∀ b, W' b → ∃ a, W a ∧ f a = b) (h4 : ∀ a, W a → c' (f a) = c a + t) : Cheap W' c' n (ps.map f) ∧ (ps.map f).map c' = (ps.map c).map (· + t) := by
  refine ⟨⟨?_, ?_, by rw [List.length_map]; exact h.len, ?_, ?_⟩, ?_⟩
  · refine List.pairwise_map.2 (List.Pairwise.imp_of_mem ?_ h.nd)
    intro a b ha hb hne he
    exact hne (h2 a b (h.all a ha) (h.all b hb) he)
  · intro p hp
    obtain ⟨a, ha, rfl⟩ := List.mem_map.1 hp
    exact h1 a (h.all a ha)
  · refine List.pairwise_map.2 (List.Pairwise.imp_of_mem ?_ h.srt)
    intro a b ha hb hne
    rw [h4 a (h.all a ha), h4 b (h.all b hb)]
    omega
  · intro x hx
    obtain ⟨a, ha, rfl⟩ := h3 x hx
    rcases h.told a ha with h5 | ⟨h5, h6⟩
    · exact .inl (List.mem_map.2 ⟨a, h5, rfl⟩)
    · right
      refine ⟨by rw [List.length_map]; exact h5, fun p hp => ?_⟩
      obtain ⟨b, hb, rfl⟩ := List.mem_map.1 hp
      rw [h4 a ha, h4 b (h.all b hb)]
      have := h6 b hb
      omega
  · rw [List.map_map, List.map_map]
    apply List.map_congr_left
    intro a ha
    exact h4 a (h.all a ha)
end
/-- two rising lists, merged -/
def mergeL {γ : Type} (c : γ → Int) : List γ → List γ → List γ
  | [], r => r
  | a :: l, [] => a :: l
  | a :: l, b :: r => if c a ≤ c b then a :: mergeL c l (b :: r) else b :: mergeL c (a :: l) r
termination_by l r => l.length + r.length
theorem mergeL_nil {γ : Type} (c : γ → Int) (l : List γ) : mergeL c l [] = l := by cases l <;> simp [mergeL]
theorem mergeL_perm {γ : Type} (c : γ → Int) (l r : List γ) : (mergeL c l r).Perm (l ++ r) := by
  induction l, r using mergeL.induct c with
  | case1 r => simp [mergeL]
  | case2 a l => simp [mergeL]
  | case3 a l b r h ih => rw [mergeL, if_pos h]; exact ih.cons a
  | case4 a l b r h ih =>
    rw [mergeL, if_neg h]
    exact (ih.cons b).trans (List.perm_middle (l₁ := a :: l)).symm
theorem mergeL_sorted {γ : Type} (c : γ → Int) (l r : List γ) : l.Pairwise (fun a b => c a ≤ c b) → r.Pairwise (fun a b => c a ≤ c b) → (mergeL c l r).Pairwise (fun a b => c a ≤ c b) := by
  induction l, r using mergeL.induct c with
  | case1 r => intro _ h; simpa [mergeL] using h
  | case2 a l => intro h _; simpa [mergeL] using h
  | case3 a l b r h ih =>
    intro h1 h2
    rw [mergeL, if_pos h]
    obtain ⟨g1, g2⟩ := List.pairwise_cons.1 h1
    obtain ⟨g3, g4⟩ := List.pairwise_cons.1 h2
    refine List.pairwise_cons.2 ⟨fun x hx => ?_, ih g2 h2⟩
    rcases List.mem_append.1 ((mergeL_perm c _ _).mem_iff.1 hx) with hx | hx
    · exact g1 x hx
    · rcases List.mem_cons.1 hx with rfl | hx
      · exact h
      · have := g3 x hx; omega
  | case4 a l b r h ih =>
    intro h1 h2
    rw [mergeL, if_neg h]
    obtain ⟨g1, g2⟩ := List.pairwise_cons.1 h1
    obtain ⟨g3, g4⟩ := List.pairwise_cons.1 h2
    refine List.pairwise_cons.2 ⟨fun x hx => ?_, ih h1 g4⟩
    rcases List.mem_append.1 ((mergeL_perm c _ _).mem_iff.1 hx) with hx | hx
    · rcases List.mem_cons.1 hx with rfl | hx
      · omega
      · have := g1 x hx; omega
    · exact g3 x hx
theorem mergeL_map {γ : Type} (c : γ → Int) (l r : List γ) : (mergeL c l r).map c = mergeL id (l.map c) (r.map c) := by
  induction l, r using mergeL.induct c with
  | case1 r => simp [mergeL]
  | case2 a l => simp [mergeL]
  | case3 a l b r h ih =>
    rw [mergeL, if_pos h]
    simp only [List.map_cons] at ih ⊢
    rw [mergeL, if_pos (show id (c a) ≤ id (c b) from h), ih]
  | case4 a l b r h ih =>
    rw [mergeL, if_neg h]
    simp only [List.map_cons] at ih ⊢
    rw [mergeL, if_neg (show ¬ id (c a) ≤ id (c b) from h), ih]
/-- the cheapest of both -/
theorem Cheap.merge {α β : Type} {W : α → Prop} {c : α → Int} {W' : β → Prop} {c' : β → Int} {n : Nat} {ps : List α} {qs : List β} (h : Cheap W c n ps) (h' : Cheap W' c' n qs) :
    Cheap (Sum.elim W W') (Sum.elim c c') n ((mergeL (Sum.elim c c') (ps.map .inl) (qs.map .inr)).take n) ∧ ((mergeL (Sum.elim c c') (ps.map .inl) (qs.map .inr)).take n).map (Sum.elim c c') = (mergeL id (ps.map c) (qs.map c')).take n := by
  have hp := mergeL_perm (Sum.elim c c') (ps.map .inl) (qs.map .inr)
  have n1 : (ps.map (Sum.inl : α → α ⊕ β)).Nodup := List.pairwise_map.2 (h.nd.imp (fun hne he => hne (Sum.inl.inj he)))
  have n2 : (qs.map (Sum.inr : β → α ⊕ β)).Nodup := List.pairwise_map.2 (h'.nd.imp (fun hne he => hne (Sum.inr.inj he)))
  constructor
  · refine cheap_of ?_ ?_ ?_ ?_
    · refine hp.nodup_iff.2 (List.nodup_append.2 ⟨n1, n2, ?_⟩)
      intro a ha b hb he
      obtain ⟨x, -, rfl⟩ := List.mem_map.1 ha
      obtain ⟨y, -, rfl⟩ := List.mem_map.1 hb
      cases he
    · intro p hp'
      rcases List.mem_append.1 (hp.mem_iff.1 hp') with hx | hx
      · obtain ⟨x, hx2, rfl⟩ := List.mem_map.1 hx
        exact h.all x hx2
      · obtain ⟨x, hx2, rfl⟩ := List.mem_map.1 hx
        exact h'.all x hx2
    · refine mergeL_sorted _ _ _ (List.pairwise_map.2 h.srt) (List.pairwise_map.2 h'.srt)
    · intro x hx
      cases x with
      | inl x =>
        rcases h.told x hx with h1 | ⟨h1, h2⟩
        · exact .inl (hp.mem_iff.2 (List.mem_append.2 (.inl (List.mem_map.2 ⟨x, h1, rfl⟩))))
        · right
          refine ⟨ps.map .inl, n1, by rw [List.length_map]; exact h1, fun z hz => ⟨hp.mem_iff.2 (List.mem_append.2 (.inl hz)), ?_⟩⟩
          obtain ⟨y, hy, rfl⟩ := List.mem_map.1 hz
          exact h2 y hy
      | inr x =>
        rcases h'.told x hx with h1 | ⟨h1, h2⟩
        · exact .inl (hp.mem_iff.2 (List.mem_append.2 (.inr (List.mem_map.2 ⟨x, h1, rfl⟩))))
        · right
          refine ⟨qs.map .inr, n2, by rw [List.length_map]; exact h1, fun z hz => ⟨hp.mem_iff.2 (List.mem_append.2 (.inr hz)), ?_⟩⟩
          obtain ⟨y, hy, rfl⟩ := List.mem_map.1 hz
          exact h2 y hy
  · rw [List.map_take, mergeL_map, List.map_map, List.map_map]
    rfl
end Go.Proofs.Ytndajklppipckaa

namespace Go.Proofs.Ytndajklppipckaa

def arcsAt (m : MachL) (q : Nat) : List ArcL := ((m.states[q]?).map (·.arcs)).getD []
def finI (m : MachL) (q : Nat) : Int := ((m.states[q]?).map (·.final)).getD 1000000001
def pw (m : MachL) (s : Nat) : List Nat → Option (Nat × Int)
  | [] => some (s, 0)
  | i :: p => match pw m s p with
    | none => none
    | some x => match (arcsAt m x.1)[i]? with
      | none => none
      | some a => some (a.to.toNat, x.2 + a.wt)
def pq (m : MachL) (s : Nat) (p : List Nat) : Nat := ((pw m s p).map (·.1)).getD 0
def pc (m : MachL) (s : Nat) (p : List Nat) : Int := ((pw m s p).map (·.2)).getD 0
def Whole (m : MachL) (s : Nat) (p : List Nat) : Prop := (pw m s p).isSome = true ∧ finI m (pq m s p) ≠ 1000000001
def wcost (m : MachL) (s : Nat) (p : List Nat) : Int := pc m s p + finI m (pq m s p)
section
variable {m : MachL} {s : Nat} {d : Nat → Int}
theorem pw_cons_none {p : List Nat} (h : pw m s p = none) (i : Nat) : pw m s (i :: p) = none := by simp only [pw, h]
theorem pw_cons {p : List Nat} {q : Nat} {c : Int} (h : pw m s p = some (q, c)) (i : Nat) : pw m s (i :: p) = ((arcsAt m q)[i]?).map (fun a => (a.to.toNat, c + a.wt)) := by
  simp only [pw, h]
  cases (arcsAt m q)[i]? <;> rfl
theorem pw_app (p : List Nat) : ∀ e, pw m s (e ++ p) = (pw m s p).bind (fun x => (pw m x.1 e).map (fun y => (y.1, x.2 + y.2))) := by
  intro e
  induction e with
  | nil =>
    rw [List.nil_append]
    cases h : pw m s p with
    | none => rfl
    | some x => simp [pw]
  | cons i e ih =>
    rw [List.cons_append]
    cases h : pw m s p with
    | none =>
      rw [h] at ih
      rw [pw_cons_none (by simpa using ih)]; rfl
    | some x =>
      rw [h] at ih
      simp only [Option.bind_some] at ih ⊢
      cases h2 : pw m x.1 e with
      | none => rw [h2] at ih; rw [pw_cons_none ih, pw_cons_none h2]; rfl
      | some y =>
        rw [h2] at ih
        simp only [Option.map_some] at ih
        rw [pw_cons ih, pw_cons (q := y.1) (c := y.2) h2]
        cases (arcsAt m y.1)[i]? with
        | none => rfl
        | some a => simp [Int.add_assoc]
theorem pq_of {p : List Nat} {x : Nat × Int} (h : pw m s p = some x) : pq m s p = x.1 ∧ pc m s p = x.2 := by unfold pq pc; rw [h]; exact ⟨rfl, rfl⟩
/-- d: how far it is to an end; 1000000001: there is none -/
structure DFar (m : MachL) (d : Nat → Int) : Prop where
  fin : ∀ q, finI m q ≠ 1000000001 → d q ≠ 1000000001 ∧ d q ≤ finI m q
  arc : ∀ q, ∀ a ∈ arcsAt m q, d a.to.toNat ≠ 1000000001 → d q ≠ 1000000001 ∧ d q ≤ a.wt + d a.to.toNat
theorem DFar.low (h : DFar m d) : ∀ (e : List Nat) (s q : Nat) (c : Int), pw m s e = some (q, c) → d q ≠ 1000000001 → d s ≠ 1000000001 ∧ d s ≤ c + d q := by
  intro e
  induction e with
  | nil => intro s q c he hd; cases he; exact ⟨hd, by omega⟩
  | cons i e ih =>
    intro s q c he hd
    cases h2 : pw m s e with
    | none => rw [pw_cons_none h2] at he; cases he
    | some y =>
      rw [pw_cons (q := y.1) (c := y.2) h2] at he
      cases h3 : (arcsAt m y.1)[i]? with
      | none => rw [h3] at he; cases he
      | some a =>
        rw [h3] at he
        cases he
        obtain ⟨g1, g2⟩ := h.arc _ _ (List.mem_of_getElem? h3) hd
        obtain ⟨g3, g4⟩ := ih s y.1 y.2 h2 g1
        exact ⟨g3, by omega⟩
def begs (m : MachL) (s : Nat) (d : Nat → Int) (h : DFar m d) : Begs where
  V p := (pw m s p).isSome = true ∧ d (pq m s p) ≠ 1000000001
  q := pq m s
  c := pc m s
  E q := finI m q ≠ 1000000001
  fin := finI m
  d := d
  same := by
    intro e p p' hq ⟨h1, h2⟩ ⟨h3, h4⟩
    obtain ⟨x, hx⟩ := Option.isSome_iff_exists.1 h1
    have hpp := pw_app (m := m) (s := s) p e
    have hp2 := pw_app (m := m) (s := s) p' e
    cases hp : pw m s p with
    | none => rw [hpp, hp] at h3; cases h3
    | some y =>
      have e1 : x.1 = y.1 := by rw [← (pq_of hx).1, ← hq, (pq_of hp).1]
      rw [hp] at hpp
      rw [hx] at hp2
      simp only [Option.bind_some] at hpp hp2
      rw [e1] at hp2
      cases hz : pw m y.1 e with
      | none => rw [hpp, hz] at h3; cases h3
      | some z =>
        rw [hz] at hpp hp2
        simp only [Option.map_some] at hpp hp2
        rw [(pq_of hpp).1] at h4
        rw [(pq_of hpp).1, (pq_of hpp).2, (pq_of hp2).1, (pq_of hp2).2, (pq_of hp).2, (pq_of hx).2, hp2]
        exact ⟨⟨rfl, h4⟩, rfl, by simp only; omega⟩
  low := by
    intro e p ⟨h1, h2⟩ h3
    have hpp := pw_app (m := m) (s := s) p e
    cases hp : pw m s p with
    | none => rw [hpp, hp] at h1; cases h1
    | some y =>
      rw [hp] at hpp
      simp only [Option.bind_some] at hpp
      cases hz : pw m y.1 e with
      | none => rw [hpp, hz] at h1; cases h1
      | some z =>
        rw [hz] at hpp
        simp only [Option.map_some] at hpp
        rw [(pq_of hpp).1] at h2 h3
        rw [(pq_of hpp).1, (pq_of hpp).2, (pq_of hp).1, (pq_of hp).2]
        have g1 := h.low e y.1 z.1 z.2 hz h2
        have g2 := h.fin _ h3
        simp only at g1 g2 ⊢
        omega
  back := by
    intro e p ⟨h1, h2⟩
    have hpp := pw_app (m := m) (s := s) p e
    cases hp : pw m s p with
    | none => rw [hpp, hp] at h1; cases h1
    | some y =>
      rw [hp] at hpp
      simp only [Option.bind_some] at hpp
      cases hz : pw m y.1 e with
      | none => rw [hpp, hz] at h1; cases h1
      | some z =>
        rw [hz] at hpp
        simp only [Option.map_some] at hpp
        rw [(pq_of hpp).1] at h2
        exact ⟨rfl, by rw [(pq_of hp).1]; exact (h.low e y.1 z.1 z.2 hz h2).1⟩
end
end Go.Proofs.Ytndajklppipckaa

namespace Go.Proofs.Ytndajklppipckaa

structure CI (b : Begs) (n : Nat) (WW : Int) (Pn : List Nat → Nat → Prop) (O EN ex Dr ps : List (List Nat)) (v : Int) (seen : List Nat) : Prop where
  cov0 : b.V [] → [] ∈ O ∨ [] ∈ ex ∨ [] ∈ Dr
  cov : ∀ p ∈ ex, ∀ i, b.V (i :: p) → ¬ Pn p i → (i :: p) ∈ O ∨ (i :: p) ∈ ex ∨ (i :: p) ∈ Dr
  cove : ∀ p ∈ ex, b.E (b.q p) → p ∈ EN ∨ p ∈ ps
  drop : ∀ p ∈ Dr, ∃ xs : List (List Nat), xs.Nodup ∧ xs.length = n ∧ ∀ x ∈ xs, x ∈ ex ∧ b.q x = b.q p ∧ b.c x ≤ b.c p
  lo : ∀ p ∈ O, v ≤ b.c p + b.d (b.q p)
  loe : ∀ p ∈ EN, v ≤ b.cost p
  hi : ∀ p ∈ ps, b.cost p ≤ v
  vx : ∀ p ∈ ex, b.V p
  vO : ∀ p ∈ O, b.V p
  en : ∀ p, p ∈ EN ∨ p ∈ ps → p ∈ ex ∧ b.E (b.q p)
  nde : EN.Nodup
  ndp : ps.Nodup
  dip : ∀ p ∈ EN, p ∉ ps
  ndO : O.Nodup
  ndx : ex.Nodup
  dis : ∀ p ∈ O, p ∉ ex
  par : ∀ i p, (i :: p) ∈ O ∨ (i :: p) ∈ ex ∨ (i :: p) ∈ Dr → p ∈ ex ∧ ¬ Pn p i
  xv : ∀ x ∈ ex, b.c x + b.d (b.q x) ≤ v
  cnt : ∀ q, q < seen.length → ex.countP (fun x => b.q x == q) = min (seen.getD q 0) n
  cb : ∀ p ∈ O, 0 ≤ b.c p ∧ b.c p ≤ ex.length * WW
  cbx : ∀ p ∈ ex, 0 ≤ b.c p ∧ b.c p + WW ≤ ex.length * WW
  len : ps.length ≤ n
  srt : ps.Pairwise (fun x y => b.cost x ≤ b.cost y)
section
variable {b : Begs} {n : Nat} {WW : Int} {Pn : List Nat → Nat → Prop} {O EN ex Dr ps : List (List Nat)} {v : Int} {seen : List Nat}
theorem CI.perm (h : CI b n WW Pn O EN ex Dr ps v seen) {O' EN' : List (List Nat)} (hO : O.Perm O') (hE : EN.Perm EN') : CI b n WW Pn O' EN' ex Dr ps v seen := by
  have mO : ∀ {p}, p ∈ O' ↔ p ∈ O := fun {p} => hO.symm.mem_iff
  have mE : ∀ {p}, p ∈ EN' ↔ p ∈ EN := fun {p} => hE.symm.mem_iff
  constructor
  case cov0 => simpa only [mO] using h.cov0
  case cov => simpa only [mO] using h.cov
  case cove => simpa only [mE] using h.cove
  case drop => exact h.drop
  case lo => simpa only [mO] using h.lo
  case loe => simpa only [mE] using h.loe
  case hi => exact h.hi
  case vx => exact h.vx
  case vO => simpa only [mO] using h.vO
  case en => simpa only [mE] using h.en
  case nde => exact hE.nodup_iff.1 h.nde
  case ndp => exact h.ndp
  case dip => simpa only [mE] using h.dip
  case ndO => exact hO.nodup_iff.1 h.ndO
  case ndx => exact h.ndx
  case dis => simpa only [mO] using h.dis
  case par => simpa only [mO] using h.par
  case xv => exact h.xv
  case cnt => exact h.cnt
  case cb => simpa only [mO] using h.cb
  case cbx => exact h.cbx
  case len => exact h.len
  case srt => exact h.srt
/-- an ended way is taken out -/
theorem CI.emit {p : List Nat} (h : CI b n WW Pn O (p :: EN) ex Dr ps v seen) (h1 : ∀ x ∈ O, b.cost p ≤ b.c x + b.d (b.q x)) (h2 : ∀ x ∈ EN, b.cost p ≤ b.cost x) (hl : ps.length < n) :
    CI b n WW Pn O EN ex Dr (ps ++ [p]) (b.cost p) seen := by
  have hv := h.loe p (by simp)
  have hn := List.nodup_cons.1 h.nde
  have hp := h.dip p (by simp)
  constructor
  case cov0 => exact h.cov0
  case cov => exact h.cov
  case cove =>
    intro x hx he
    rcases h.cove x hx he with g | g
    · rcases List.mem_cons.1 g with rfl | g
      · right; simp
      · exact .inl g
    · right; simp [g]
  case drop => exact h.drop
  case lo => exact h1
  case loe => exact h2
  case hi =>
    intro x hx
    rcases List.mem_append.1 hx with g | g
    · have := h.hi x g; omega
    · rw [List.mem_singleton.1 g]; omega
  case vx => exact h.vx
  case vO => exact h.vO
  case en =>
    intro x hx
    rcases hx with g | g
    · exact h.en x (.inl (by simp [g]))
    · rcases List.mem_append.1 g with g | g
      · exact h.en x (.inr g)
      · rw [List.mem_singleton.1 g]; exact h.en p (.inl (by simp))
  case nde => exact hn.2
  case ndp =>
    refine List.nodup_append.2 ⟨h.ndp, by simp, ?_⟩
    intro a ha c hc he
    rw [List.mem_singleton.1 hc] at he
    rw [he] at ha
    exact hp ha
  case dip =>
    intro x hx hx2
    rcases List.mem_append.1 hx2 with g | g
    · exact h.dip x (by simp [hx]) g
    · rw [List.mem_singleton.1 g] at hx; exact hn.1 hx
  case ndO => exact h.ndO
  case ndx => exact h.ndx
  case dis => exact h.dis
  case par => exact h.par
  case xv => intro x hx; have := h.xv x hx; omega
  case cnt => exact h.cnt
  case cb => exact h.cb
  case cbx => exact h.cbx
  case len => rw [List.length_append, List.length_singleton]; omega
  case srt =>
    refine List.pairwise_append.2 ⟨h.srt, List.pairwise_singleton _ _, ?_⟩
    intro x hx y hy
    rw [List.mem_singleton.1 hy]
    have := h.hi x hx; omega
theorem getD_set_nat (l : List Nat) (q k x : Nat) (hq : q < l.length) : (l.set q x).getD k 0 = if k = q then x else l.getD k 0 := by
  simp only [List.getD_eq_getElem?_getD, List.getElem?_set]
  by_cases h : q = k
  · subst h; simp [hq]
  · rw [if_neg h, if_neg (fun e => h e.symm)]
/-- a beginning is dropped: n are led on already from its state -/
theorem CI.drop1 {p : List Nat} (h : CI b n WW Pn (p :: O) EN ex Dr ps v seen) (hq : b.q p < seen.length) (hs : n ≤ seen.getD (b.q p) 0)
    (h1 : ∀ x ∈ O, b.c p + b.d (b.q p) ≤ b.c x + b.d (b.q x)) (h2 : ∀ x ∈ EN, b.c p + b.d (b.q p) ≤ b.cost x) :
    CI b n WW Pn O EN ex (p :: Dr) ps (b.c p + b.d (b.q p)) (seen.set (b.q p) (seen.getD (b.q p) 0 + 1)) := by
  have hv := h.lo p (by simp)
  have hn := List.nodup_cons.1 h.ndO
  constructor
  case cov0 =>
    intro g
    rcases h.cov0 g with g | g | g
    · rcases List.mem_cons.1 g with g | g
      · right; right; simp [g]
      · exact .inl g
    · exact .inr (.inl g)
    · right; right; simp [g]
  case cov =>
    intro x hx i g g2
    rcases h.cov x hx i g g2 with g | g | g
    · rcases List.mem_cons.1 g with g | g
      · right; right; simp [g]
      · exact .inl g
    · exact .inr (.inl g)
    · right; right; simp [g]
  case cove => exact h.cove
  case drop =>
    intro x hx
    rcases List.mem_cons.1 hx with rfl | hx
    · refine ⟨ex.filter (fun y => b.q y == b.q x), h.ndx.sublist List.filter_sublist, ?_, ?_⟩
      · rw [← List.countP_eq_length_filter, h.cnt _ hq]; omega
      · intro y hy
        obtain ⟨g1, g2⟩ := List.mem_filter.1 hy
        have g3 : b.q y = b.q x := by simpa using g2
        have g4 := h.xv y g1
        refine ⟨g1, g3, ?_⟩
        rw [g3] at g4; omega
    · exact h.drop x hx
  case lo => exact h1
  case loe => exact h2
  case hi => intro x hx; have := h.hi x hx; omega
  case vx => exact h.vx
  case vO => intro x hx; exact h.vO x (by simp [hx])
  case en => exact h.en
  case nde => exact h.nde
  case ndp => exact h.ndp
  case dip => exact h.dip
  case ndO => exact hn.2
  case ndx => exact h.ndx
  case dis => intro x hx; exact h.dis x (by simp [hx])
  case par =>
    intro i x hx
    refine h.par i x ?_
    rcases hx with g | g | g
    · left; simp [g]
    · exact .inr (.inl g)
    · rcases List.mem_cons.1 g with g | g
      · left; simp [g]
      · exact .inr (.inr g)
  case xv => intro x hx; have := h.xv x hx; omega
  case cnt =>
    intro q hq2
    rw [List.length_set] at hq2
    rw [h.cnt q hq2, getD_set_nat _ _ _ _ hq]
    split
    · rename_i e; subst e; omega
    · rfl
  case cb => intro x hx; exact h.cb x (by simp [hx])
  case cbx => exact h.cbx
  case len => exact h.len
  case srt => exact h.srt
/-- a beginning is led on: an end first -/
theorem CI.lead {p : List Nat} (h : CI b n WW (fun _ _ => False) (p :: O) EN ex Dr ps v seen) (hq : b.q p < seen.length) (hs : seen.getD (b.q p) 0 < n) (hW : 0 ≤ WW)
    (h1 : ∀ x ∈ O, b.c p + b.d (b.q p) ≤ b.c x + b.d (b.q x)) (h2 : ∀ x ∈ EN, b.c p + b.d (b.q p) ≤ b.cost x) {EN' : List (List Nat)} (hE1 : b.E (b.q p) → EN' = p :: EN) (hE2 : ¬ b.E (b.q p) → EN' = EN) :
    CI b n WW (fun x j => x = p ∧ 0 ≤ j) O EN' (p :: ex) Dr ps (b.c p + b.d (b.q p)) (seen.set (b.q p) (seen.getD (b.q p) 0 + 1)) := by
  classical
  have hv := h.lo p (by simp)
  have hn := List.nodup_cons.1 h.ndO
  have hpx := h.dis p (by simp)
  have hV := h.vO p (by simp)
  have m1 : ∀ x, x ∈ EN' → x ∈ EN ∨ (x = p ∧ b.E (b.q p)) := fun x hx => by
    by_cases hE : b.E (b.q p)
    · rw [hE1 hE] at hx
      rcases List.mem_cons.1 hx with g | g
      · exact .inr ⟨g, hE⟩
      · exact .inl g
    · rw [hE2 hE] at hx; exact .inl hx
  have m2 : ∀ x ∈ EN, x ∈ EN' := fun x hx => by
    by_cases hE : b.E (b.q p)
    · rw [hE1 hE]; simp [hx]
    · rw [hE2 hE]; exact hx
  have hpE : p ∉ EN := fun g => hpx (h.en p (.inl g)).1
  have hpp : p ∉ ps := fun g => hpx (h.en p (.inr g)).1
  have hlen : ((p :: ex).length : Int) * WW = ex.length * WW + WW := by
    rw [List.length_cons, Int.natCast_add, Int.add_mul]; simp
  have hcb := h.cb p (by simp)
  constructor
  case cov0 =>
    intro g
    rcases h.cov0 g with g | g | g
    · rcases List.mem_cons.1 g with g | g
      · right; left; simp [g]
      · exact .inl g
    · right; left; simp [g]
    · exact .inr (.inr g)
  case cov =>
    intro x hx i g g2
    rcases List.mem_cons.1 hx with rfl | hx
    · exact absurd ⟨rfl, Nat.zero_le _⟩ g2
    · rcases h.cov x hx i g (fun f => f) with g | g | g
      · rcases List.mem_cons.1 g with g | g
        · right; left; simp [g]
        · exact .inl g
      · right; left; simp [g]
      · exact .inr (.inr g)
  case cove =>
    intro x hx he
    rcases List.mem_cons.1 hx with rfl | hx
    · left; rw [hE1 he]; simp
    · rcases h.cove x hx he with g | g
      · exact .inl (m2 x g)
      · exact .inr g
  case drop =>
    intro x hx
    obtain ⟨xs, g1, g2, g3⟩ := h.drop x hx
    exact ⟨xs, g1, g2, fun y hy => by obtain ⟨f1, f2⟩ := g3 y hy; exact ⟨by simp [f1], f2⟩⟩
  case lo => exact h1
  case loe =>
    intro x hx
    rcases m1 x hx with g | ⟨rfl, g⟩
    · exact h2 x g
    · exact b.low [] _ hV g
  case hi => intro x hx; have := h.hi x hx; omega
  case vx =>
    intro x hx
    rcases List.mem_cons.1 hx with rfl | hx
    · exact hV
    · exact h.vx x hx
  case vO => intro x hx; exact h.vO x (by simp [hx])
  case en =>
    intro x hx
    rcases hx with g | g
    · rcases m1 x g with g | ⟨rfl, g⟩
      · have := h.en x (.inl g); exact ⟨by simp [this.1], this.2⟩
      · exact ⟨by simp, g⟩
    · have := h.en x (.inr g); exact ⟨by simp [this.1], this.2⟩
  case nde =>
    by_cases hE : b.E (b.q p)
    · rw [hE1 hE]; exact List.nodup_cons.2 ⟨hpE, h.nde⟩
    · rw [hE2 hE]; exact h.nde
  case ndp => exact h.ndp
  case dip =>
    intro x hx
    rcases m1 x hx with g | ⟨rfl, g⟩
    · exact h.dip x g
    · exact hpp
  case ndO => exact hn.2
  case ndx => exact List.nodup_cons.2 ⟨hpx, h.ndx⟩
  case dis =>
    intro x hx hx2
    rcases List.mem_cons.1 hx2 with rfl | hx2
    · exact hn.1 hx
    · exact h.dis x (by simp [hx]) hx2
  case par =>
    intro i x hx
    have g : x ∈ ex ∨ ((i :: x) = p ∧ (i :: x) ∈ p :: O) := by
      rcases hx with g | g | g
      · exact .inl (h.par i x (.inl (by simp [g]))).1
      · rcases List.mem_cons.1 g with g | g
        · exact .inl (h.par i x (.inl (by simp [g]))).1
        · exact .inl (h.par i x (.inr (.inl g))).1
      · exact .inl (h.par i x (.inr (.inr g))).1
    rcases g with g | ⟨g, g2⟩
    · exact ⟨by simp [g], fun f => hpx (f.1 ▸ g)⟩
    · have := (h.par i x (.inl g2)).1
      exact ⟨by simp [this], fun f => hpx (f.1 ▸ this)⟩
  case xv =>
    intro x hx
    rcases List.mem_cons.1 hx with rfl | hx
    · omega
    · have := h.xv x hx; omega
  case cnt =>
    intro q hq2
    rw [List.length_set] at hq2
    rw [List.countP_cons, h.cnt q hq2, getD_set_nat _ _ _ _ hq]
    by_cases e : q = b.q p
    · subst e; rw [if_pos rfl, if_pos (by simp)]; omega
    · rw [if_neg e, if_neg (by simpa using fun e2 => e e2.symm)]; omega
  case cb => intro x hx; have := h.cb x (by simp [hx]); rw [hlen]; omega
  case cbx =>
    intro x hx
    rw [hlen]
    rcases List.mem_cons.1 hx with rfl | hx
    · omega
    · have := h.cbx x hx; omega
  case len => exact h.len
  case srt => exact h.srt
/-- one arc further -/
theorem CI.skip {p : List Nat} {k : Nat} (h : CI b n WW (fun x j => x = p ∧ k ≤ j) O EN ex Dr ps v seen) (hV : ¬ b.V (k :: p)) : CI b n WW (fun x j => x = p ∧ k + 1 ≤ j) O EN ex Dr ps v seen := by
  refine { h with cov := ?_, par := ?_ }
  · intro x hx i g g2
    refine h.cov x hx i g (fun f => g2 ⟨f.1, ?_⟩)
    rcases Nat.lt_or_ge k i with g3 | g3
    · omega
    · obtain rfl : i = k := by omega
      rw [f.1] at g; exact absurd g hV
  · intro i x hx
    obtain ⟨g1, g2⟩ := h.par i x hx
    exact ⟨g1, fun f => g2 ⟨f.1, by omega⟩⟩
theorem CI.push {p : List Nat} {k : Nat} (h : CI b n WW (fun x j => x = p ∧ k ≤ j) O EN ex Dr ps v seen) (hp : p ∈ ex) (hV : b.V (k :: p)) (hl : v ≤ b.c (k :: p) + b.d (b.q (k :: p))) (hc : b.c p ≤ b.c (k :: p) ∧ b.c (k :: p) ≤ b.c p + WW) :
    CI b n WW (fun x j => x = p ∧ k + 1 ≤ j) ((k :: p) :: O) EN ex Dr ps v seen := by
  have hno : (k :: p) ∉ O ∧ (k :: p) ∉ ex := ⟨fun g => (h.par k p (.inl g)).2 ⟨rfl, Nat.le_refl _⟩, fun g => (h.par k p (.inr (.inl g))).2 ⟨rfl, Nat.le_refl _⟩⟩
  have hcx := h.cbx p hp
  refine { h with cov0 := ?_, cov := ?_, par := ?_, lo := ?_, vO := ?_, ndO := ?_, dis := ?_, cb := ?_ }
  · intro g
    exact (h.cov0 g).imp_left (fun g => by simp [g])
  · intro x hx i g g2
    by_cases e : x = p ∧ i = k
    · left; rw [e.1, e.2]; simp
    · refine (h.cov x hx i g (fun f => g2 ⟨f.1, ?_⟩)).imp_left (fun g => by simp [g])
      have : i ≠ k := fun e2 => e ⟨f.1, e2⟩
      have := f.2
      omega
  · intro x hx
    rcases List.mem_cons.1 hx with rfl | hx
    · exact hl
    · exact h.lo x hx
  · intro x hx
    rcases List.mem_cons.1 hx with rfl | hx
    · exact hV
    · exact h.vO x hx
  · exact List.nodup_cons.2 ⟨hno.1, h.ndO⟩
  · intro x hx
    rcases List.mem_cons.1 hx with rfl | hx
    · exact hno.2
    · exact h.dis x hx
  · intro i x hx
    by_cases e : (i :: x) = (k :: p)
    · obtain ⟨rfl, rfl⟩ := List.cons.inj e
      exact ⟨hp, fun f => by omega⟩
    · obtain ⟨g1, g2⟩ := h.par i x (hx.imp_left (fun g => (List.mem_cons.1 g).resolve_left e))
      exact ⟨g1, fun f => g2 ⟨f.1, by omega⟩⟩
  · intro x hx
    rcases List.mem_cons.1 hx with rfl | hx
    · omega
    · exact h.cb x hx
theorem CI.rest {p : List Nat} {k : Nat} (h : CI b n WW (fun x j => x = p ∧ k ≤ j) O EN ex Dr ps v seen) (hV : ∀ i, k ≤ i → ¬ b.V (i :: p)) : CI b n WW (fun _ _ => False) O EN ex Dr ps v seen := by
  refine { h with cov := ?_, par := ?_ }
  · intro x hx i g _
    exact h.cov x hx i g (fun f => hV i f.2 (f.1 ▸ g))
  · intro i x hx
    exact ⟨(h.par i x hx).1, fun f => f⟩
theorem CI.init (hn : seen = List.replicate seen.length 0) (h0 : O = [[]] ∧ b.V [] ∧ b.c [] = 0 ∧ v = b.d (b.q []) ∨ O = [] ∧ ¬ b.V []) : CI b n WW (fun _ _ => False) O [] [] [] [] v seen := by
  have hO : ∀ p ∈ O, p = [] ∧ b.V [] ∧ b.c [] = 0 ∧ v = b.d (b.q []) := fun p hp => by
    rcases h0 with ⟨rfl, h1⟩ | ⟨rfl, h1⟩
    · exact ⟨by simpa using hp, h1⟩
    · cases hp
  constructor
  case cov0 =>
    intro g
    rcases h0 with ⟨rfl, h1⟩ | ⟨rfl, h1⟩
    · simp
    · exact absurd g h1
  case lo => intro p hp; obtain ⟨rfl, -, h2, h3⟩ := hO p hp; omega
  case vO => intro p hp; obtain ⟨rfl, h1, -⟩ := hO p hp; exact h1
  case ndO =>
    rcases h0 with ⟨rfl, h1⟩ | ⟨rfl, h1⟩ <;> simp
  case par =>
    intro i p hp
    rcases hp with hp | hp | hp
    · cases (hO _ hp).1
    · cases hp
    · cases hp
  case cnt =>
    intro q hq
    have e : seen.getD q 0 = 0 := by rw [hn, List.getD_eq_getElem?_getD, List.getElem?_replicate]; split <;> rfl
    rw [e]; simp
  case cb => intro p hp; obtain ⟨rfl, -, h2, -⟩ := hO p hp; rw [h2]; simp
  case en => intro p hp; rcases hp with hp | hp <;> cases hp
  case dis => intro p hp hp2; cases hp2
  all_goals first | exact List.nodup_nil | exact List.Pairwise.nil | (intro p hp; cases hp) | simp
theorem count_sum {α : Type} (f : α → Nat) (n : Nat) : ∀ (S : Nat) (l : List α), (∀ x ∈ l, f x < S) → (∀ q, q < S → l.countP (fun x => f x == q) ≤ n) → l.length ≤ n * S := by
  intro S
  induction S with
  | zero =>
    intro l h _
    cases l with
    | nil => simp
    | cons a l => exact absurd (h a (by simp)) (by omega)
  | succ S ih =>
    intro l h1 h2
    have h3 := ih (l.filter (fun x => !(f x == S))) (fun x hx => by
      obtain ⟨g1, g2⟩ := List.mem_filter.1 hx
      have := h1 x g1
      have : f x ≠ S := by simpa using g2
      omega) (fun q hq => by
      refine Nat.le_trans ?_ (h2 q (by omega))
      exact List.filter_sublist.countP_le)
    have h4 := h2 S (by omega)
    have h5 := List.length_eq_countP_add_countP (fun x => f x == S) (l := l)
    have h6 : (l.filter (fun x => !(f x == S))).length = l.countP (fun a => decide ¬(f a == S) = true) := by
      rw [← List.countP_eq_length_filter]
      congr 1
      funext a
      cases hh : (f a == S) <;> simp
    rw [Nat.mul_succ]
    omega
theorem CI.exlen (h : CI b n WW Pn O EN ex Dr ps v seen) (hq : ∀ p, b.V p → b.q p < seen.length) : ex.length ≤ n * seen.length :=
  count_sum b.q n _ _ (fun x hx => hq x (h.vx x hx)) (fun q hq => by rw [h.cnt q hq]; omega)
/-- at the end -/
theorem CI.cheap (h : CI b n WW (fun _ _ => False) O EN ex Dr ps v seen) (hend : (O = [] ∧ EN = []) ∨ ps.length = n) : Cheap (fun p => b.V p ∧ b.E (b.q p)) b.cost n ps := by
  have hC : CInv b n O EN ex Dr ps v := ⟨h.cov0, fun p hp i hv => h.cov p hp i hv (fun f => f), h.cove, h.drop, h.lo, h.loe, h.hi, h.vx, h.ndp, h.len⟩
  refine ⟨h.ndp, fun p hp => ?_, h.len, h.srt, fun x hx => ?_⟩
  · obtain ⟨g1, g2⟩ := h.en p (.inr hp)
    exact ⟨h.vx p g1, g2⟩
  · have g1 := hC.told hend x.length x [] (Nat.le_refl _) (by simpa using hx.1) (by simpa using hx.2) (h.cov0 (b.back x [] (by simpa using hx.1)))
    rw [List.append_nil] at g1
    exact g1
end
end Go.Proofs.Ytndajklppipckaa

namespace Go.Proofs.Ytndajklppipckaa

def ioW (b : Begs) (p : List Nat) : WayL := ⟨(b.q p : Nat), b.c p, b.c p + b.d (b.q p)⟩
def ieW (b : Begs) (p : List Nat) : WayL := ⟨-1, b.cost p, b.cost p⟩
theorem perm_map_pick {O : List (List Nat)} {p : List Nat} (h : p ∈ O) : ∃ O', O.Perm (p :: O') := ⟨O.erase p, List.perm_cons_erase h⟩
theorem popped {b : Begs} {O EN : List (List Nat)} {it : WayL} {l l' : List WayL} (hl : l.Perm (O.map (ioW b) ++ EN.map (ieW b))) (hp : (it :: l').Perm l) :
    (∃ p O', O.Perm (p :: O') ∧ it = ioW b p ∧ l'.Perm (O'.map (ioW b) ++ EN.map (ieW b))) ∨ (∃ p EN', EN.Perm (p :: EN') ∧ it = ieW b p ∧ l'.Perm (O.map (ioW b) ++ EN'.map (ieW b))) := by
  have h := hp.trans hl
  have h1 : it ∈ O.map (ioW b) ++ EN.map (ieW b) := h.mem_iff.1 (by simp)
  rcases List.mem_append.1 h1 with h2 | h2
  · obtain ⟨p, hp1, rfl⟩ := List.mem_map.1 h2
    obtain ⟨O', hO⟩ := perm_map_pick hp1
    refine .inl ⟨p, O', hO, rfl, ?_⟩
    have h3 := h.trans ((hO.map (ioW b)).append_right _)
    exact h3.cons_inv
  · obtain ⟨p, hp1, rfl⟩ := List.mem_map.1 h2
    obtain ⟨EN', hE⟩ := perm_map_pick hp1
    refine .inr ⟨p, EN', hE, rfl, ?_⟩
    have h3 := (h.trans ((hE.map (ieW b)).append_left _)).trans (List.perm_middle (a := ieW b p))
    exact h3.cons_inv
theorem least_all {b : Begs} {O EN : List (List Nat)} {x : Int} {l : List WayL} (hl : l.Perm (O.map (ioW b) ++ EN.map (ieW b))) (h : ∀ y ∈ l, x ≤ y.least) :
    (∀ p ∈ O, x ≤ b.c p + b.d (b.q p)) ∧ (∀ p ∈ EN, x ≤ b.cost p) :=
  ⟨fun p hp => h (ioW b p) (hl.mem_iff.2 (List.mem_append.2 (.inl (List.mem_map.2 ⟨p, hp, rfl⟩)))), fun p hp => h (ieW b p) (hl.mem_iff.2 (List.mem_append.2 (.inr (List.mem_map.2 ⟨p, hp, rfl⟩))))⟩
theorem perm_io {b : Begs} {O EN : List (List Nat)} {l l' : List WayL} (hl : l.Perm (O.map (ioW b) ++ EN.map (ieW b))) {p : List Nat} (hp : l'.Perm (l ++ [ioW b p])) : l'.Perm ((p :: O).map (ioW b) ++ EN.map (ieW b)) :=
  (hp.trans (List.perm_append_comm.trans (by simpa using hl.cons (ioW b p))))
theorem perm_ie {b : Begs} {O EN : List (List Nat)} {l l' : List WayL} (hl : l.Perm (O.map (ioW b) ++ EN.map (ieW b))) {p : List Nat} (hp : l'.Perm (l ++ [ieW b p])) : l'.Perm (O.map (ioW b) ++ (p :: EN).map (ieW b)) := by
  refine hp.trans (List.perm_append_comm.trans ?_)
  have h1 : ([ieW b p] ++ l).Perm (ieW b p :: (O.map (ioW b) ++ EN.map (ieW b))) := by simpa using hl.cons (ieW b p)
  exact h1.trans List.perm_middle.symm
theorem popped_min {it : WayL} {l' l : List WayL} (hp : (it :: l').Perm l) (hm : ∀ y ∈ l', it.least ≤ y.least) : ∀ y ∈ l, it.least ≤ y.least := fun y hy => by
  rcases List.mem_cons.1 (hp.mem_iff.2 hy) with rfl | h
  · exact Int.le_refl _
  · exact hm y h

section
variable {m : MachL} {s : Nat} {d : Nat → Int}
theorem arcsAt_lt {q : Nat} {a : ArcL} (h : a ∈ arcsAt m q) : ∃ hq : q < m.states.length, a ∈ m.states[q].arcs := by
  unfold arcsAt at h
  cases hs : m.states[q]? with
  | none => rw [hs] at h; simp at h
  | some z =>
    rw [hs] at h
    obtain ⟨hq, rfl⟩ := List.getElem?_eq_some_iff.1 hs
    exact ⟨hq, by simpa using h⟩
theorem arcsAt_of {q : Nat} (hq : q < m.states.length) : arcsAt m q = m.states[q].arcs := by unfold arcsAt; rw [List.getElem?_eq_getElem hq]; rfl
theorem finI_of {q : Nat} (hq : q < m.states.length) : finI m q = m.states[q].final := by unfold finI; rw [List.getElem?_eq_getElem hq]; rfl
theorem finI_lt {q : Nat} (h : finI m q ≠ 1000000001) : q < m.states.length := by
  apply Classical.byContradiction
  intro hq
  apply h
  unfold finI
  rw [List.getElem?_eq_none (by omega)]; rfl
theorem dfar_of (hv : Valid m) {dl : List Int} (hd : ∀ q, q < m.states.length → IsDist (endsFirst m) (endsE m) q (dl.getD q 0)) : DFar m (fun q => dl.getD q 0) := by
  constructor
  · intro q hf
    have hq := finI_lt hf
    rw [finI_of hq] at hf ⊢
    have hw := ends_start hq hf
    rcases hd q hq with ⟨h1, h2⟩ | ⟨h1, h2, h3, h4⟩
    · exact absurd hw (h2 _)
    · exact ⟨by omega, h4 _ hw⟩
  · intro q a ha hne
    obtain ⟨hq, ha⟩ := arcsAt_lt ha
    have hva := (hv.st _ (List.getElem_mem hq)).2 a ha
    have ht : a.to.toNat < m.states.length := by have := hva.t0; have := hva.t1; omega
    rcases hd _ ht with ⟨h1, h2⟩ | ⟨h1, h2, h3, h4⟩
    · exact absurd h1 hne
    · have hw := ends_step hv ha h3
      rcases hd q hq with ⟨g1, g2⟩ | ⟨g1, g2, g3, g4⟩
      · exact absurd hw (g2 _)
      · refine ⟨by omega, ?_⟩
        have := g4 _ hw
        omega
theorem pq_lt (hv : Valid m) (hs : s < m.states.length) : ∀ (p : List Nat) (x : Nat × Int), pw m s p = some x → x.1 < m.states.length := by
  intro p
  induction p with
  | nil => intro x h; cases h; exact hs
  | cons i p ih =>
    intro x h
    cases hp : pw m s p with
    | none => rw [pw_cons_none hp] at h; cases h
    | some y =>
      rw [pw_cons (q := y.1) (c := y.2) hp] at h
      cases ha : (arcsAt m y.1)[i]? with
      | none => rw [ha] at h; cases h
      | some a =>
        rw [ha] at h
        cases h
        obtain ⟨hq, h2⟩ := arcsAt_lt (List.mem_of_getElem? ha)
        have hva := (hv.st _ (List.getElem_mem hq)).2 a h2
        have := hva.t0; have := hva.t1
        simp only
        omega
theorem begs_lt (hv : Valid m) (hs : s < m.states.length) (h : DFar m d) : ∀ p, (begs m s d h).V p → (begs m s d h).q p < m.states.length := by
  intro p ⟨h1, h2⟩
  obtain ⟨x, hx⟩ := Option.isSome_iff_exists.1 h1
  have := pq_lt hv hs p x hx
  show pq m s p < _
  rw [(pq_of hx).1]; exact this
/-- one arc further from p -/
theorem begs_arc (h : DFar m d) {p : List Nat} (hV : (begs m s d h).V p) {k : Nat} {a : ArcL} (ha : (arcsAt m ((begs m s d h).q p))[k]? = some a) :
    (begs m s d h).q (k :: p) = a.to.toNat ∧ (begs m s d h).c (k :: p) = (begs m s d h).c p + a.wt ∧ ((begs m s d h).V (k :: p) ↔ d a.to.toNat ≠ 1000000001) := by
  obtain ⟨x, hx⟩ := Option.isSome_iff_exists.1 hV.1
  have e1 : (begs m s d h).q p = x.1 := (pq_of hx).1
  have e2 : (begs m s d h).c p = x.2 := (pq_of hx).2
  rw [e1] at ha
  have hk := pw_cons (q := x.1) (c := x.2) hx k
  rw [ha] at hk
  have f1 : pq m s (k :: p) = a.to.toNat := (pq_of hk).1
  have f2 : pc m s (k :: p) = x.2 + a.wt := (pq_of hk).2
  refine ⟨f1, by rw [e2]; exact f2, ?_⟩
  show ((pw m s (k :: p)).isSome = true ∧ d (pq m s (k :: p)) ≠ 1000000001) ↔ _
  rw [f1, hk]
  simp
theorem begs_none (h : DFar m d) {p : List Nat} (hV : (begs m s d h).V p) {k : Nat} (ha : (arcsAt m ((begs m s d h).q p))[k]? = none) : ¬ (begs m s d h).V (k :: p) := by
  obtain ⟨x, hx⟩ := Option.isSome_iff_exists.1 hV.1
  have e1 : (begs m s d h).q p = x.1 := (pq_of hx).1
  rw [e1] at ha
  have hk := pw_cons (q := x.1) (c := x.2) hx k
  rw [ha] at hk
  intro hh
  have := hh.1
  rw [hk] at this
  cases this
theorem begs_nil (h : DFar m d) : (begs m s d h).q [] = s ∧ (begs m s d h).c [] = 0 ∧ ((begs m s d h).V [] ↔ d s ≠ 1000000001) := by
  refine ⟨rfl, rfl, ?_⟩
  show ((pw m s []).isSome = true ∧ d (pq m s []) ≠ 1000000001) ↔ _
  simp [pw, pq]
theorem begs_whole (h : DFar m d) (p : List Nat) : ((begs m s d h).V p ∧ (begs m s d h).E ((begs m s d h).q p)) ↔ Whole m s p := by
  constructor
  · intro ⟨h1, h2⟩
    exact ⟨h1.1, h2⟩
  · intro ⟨h1, h2⟩
    exact ⟨⟨h1, (h.fin _ h2).1⟩, h2⟩
theorem begs_cost (h : DFar m d) (p : List Nat) : (begs m s d h).cost p = wcost m s p := rfl
theorem Cheap.congr {α : Type} {W W' : α → Prop} {c : α → Int} {n : Nat} {ps : List α} (h : Cheap W c n ps) (he : ∀ p, W p ↔ W' p) : Cheap W' c n ps :=
  ⟨h.nd, fun p hp => (he p).1 (h.all p hp), h.len, h.srt, fun x hx => h.told x ((he x).2 hx)⟩
end
end Go.Proofs.Ytndajklppipckaa
