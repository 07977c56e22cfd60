/- What leads to a state (plain). -/
import Derived.Test.YtlfjccgbngnjhaaMem
namespace Go.Proofs.Ytlfjccgbngnjhaa

/-- p is put to what leads where the arcs go -/
def addArcs (rows : List (List Nat)) (p : Nat) (l : List ArcL) : List (List Nat) := l.foldl (fun r a => r.set a.to.toNat (r.getD a.to.toNat [] ++ [p])) rows
def backRows (ss : List StateL) (k : Nat) : List (List Nat) := (List.range k).foldl (fun r p => addArcs r p (((ss[p]?).map (·.arcs)).getD [])) (List.replicate ss.length [])
def endsUpto (ss : List StateL) (k : Nat) : List Nat := (List.range k).filter fun q => ((ss[q]?).map (·.final)).getD 1000000001 != 1000000001

theorem addArcs_len (l : List ArcL) : ∀ (r : List (List Nat)) (p : Nat), (addArcs r p l).length = r.length := by
  induction l with
  | nil => intro r p; rfl
  | cons a l ih => intro r p; exact (ih _ p).trans (by simp)
theorem addArcs_snoc (r : List (List Nat)) (p : Nat) (l : List ArcL) (a : ArcL) : addArcs r p (l ++ [a]) = (addArcs r p l).set a.to.toNat ((addArcs r p l).getD a.to.toNat [] ++ [p]) := by simp [addArcs]
theorem backRows_snoc (ss : List StateL) (k : Nat) (h : k < ss.length) : backRows ss (k + 1) = addArcs (backRows ss k) k ss[k].arcs := by
  unfold backRows; rw [List.range_succ, List.foldl_append]; simp [h]
theorem backRows_len (ss : List StateL) (k : Nat) : (backRows ss k).length = ss.length := by
  induction k with
  | zero => simp [backRows]
  | succ k ih =>
    unfold backRows at ih ⊢
    rw [List.range_succ, List.foldl_append]
    simp only [List.foldl_cons, List.foldl_nil]
    rw [addArcs_len]; exact ih
theorem endsUpto_snoc (ss : List StateL) (k : Nat) (h : k < ss.length) : endsUpto ss (k + 1) = if ss[k].final = 1000000001 then endsUpto ss k else endsUpto ss k ++ [k] := by
  unfold endsUpto; rw [List.range_succ, List.filter_append]
  by_cases e : ss[k].final = 1000000001 <;> simp [h, e]
theorem endsUpto_len (ss : List StateL) (k : Nat) : (endsUpto ss k).length ≤ k := by
  unfold endsUpto; refine Nat.le_trans (List.length_filter_le _ _) ?_; simp
theorem endsUpto_lt (ss : List StateL) (k : Nat) : ∀ p ∈ endsUpto ss k, p < k := fun p hp => by
  unfold endsUpto at hp
  have := (List.mem_filter.1 hp).1
  simpa using this

theorem mem_addArcs (l : List ArcL) : ∀ (r : List (List Nat)) (p q x : Nat), (∀ a ∈ l, a.to.toNat < r.length) → (x ∈ (addArcs r p l).getD q [] ↔ x ∈ r.getD q [] ∨ (x = p ∧ ∃ a ∈ l, a.to.toNat = q)) := by
  induction l with
  | nil => intro r p q x _; simp [addArcs]
  | cons a l ih =>
    intro r p q x h
    have h1 := ih (r.set a.to.toNat (r.getD a.to.toNat [] ++ [p])) p q x (fun b hb => by simpa using h b (by simp [hb]))
    have ha := h a (by simp)
    show x ∈ (addArcs (r.set a.to.toNat (r.getD a.to.toNat [] ++ [p])) p l).getD q [] ↔ _
    rw [h1]
    by_cases e : a.to.toNat = q
    · subst e
      have : (r.set a.to.toNat (r.getD a.to.toNat [] ++ [p])).getD a.to.toNat [] = r.getD a.to.toNat [] ++ [p] := by simp [List.getD_eq_getElem?_getD, ha]
      rw [this, List.mem_append, List.mem_singleton]
      constructor
      · rintro ((h2 | h2) | ⟨h2, b, hb, h3⟩)
        · exact .inl h2
        · exact .inr ⟨h2, a, by simp, rfl⟩
        · exact .inr ⟨h2, b, by simp [hb], h3⟩
      · rintro (h2 | ⟨h2, b, hb, h3⟩)
        · exact .inl (.inl h2)
        · exact .inl (.inr h2)
    · have : (r.set a.to.toNat (r.getD a.to.toNat [] ++ [p])).getD q [] = r.getD q [] := by
        simp only [List.getD_eq_getElem?_getD]; rw [List.getElem?_set_ne e]
      rw [this]
      constructor
      · rintro (h2 | ⟨h2, b, hb, h3⟩)
        · exact .inl h2
        · exact .inr ⟨h2, b, by simp [hb], h3⟩
      · rintro (h2 | ⟨h2, b, hb, h3⟩)
        · exact .inl h2
        · rcases List.mem_cons.1 hb with rfl | hb
          · exact absurd h3 e
          · exact .inr ⟨h2, b, hb, h3⟩
theorem mem_backRows (ss : List StateL) (hv : ∀ s ∈ ss, ∀ a ∈ s.arcs, a.to.toNat < ss.length) (q x : Nat) : ∀ k, k ≤ ss.length → (x ∈ (backRows ss k).getD q [] ↔ ∃ h : x < ss.length, x < k ∧ ∃ a ∈ ss[x].arcs, a.to.toNat = q) := by
  intro k
  induction k with
  | zero =>
    intro _
    simp [backRows, List.getD_eq_getElem?_getD, List.getElem?_replicate]
    split <;> simp
  | succ k ih =>
    intro hk
    have hlt : k < ss.length := by omega
    rw [backRows_snoc ss k hlt, mem_addArcs _ _ _ _ _ (fun a ha => by rw [backRows_len]; exact hv _ (List.getElem_mem hlt) a ha), ih (by omega)]
    constructor
    · rintro (⟨h, h1, h2⟩ | ⟨rfl, h2⟩)
      · exact ⟨h, by omega, h2⟩
      · exact ⟨hlt, by omega, h2⟩
    · rintro ⟨h, h1, h2⟩
      by_cases e : x = k
      · subst e; exact .inr ⟨rfl, h2⟩
      · exact .inl ⟨h, by omega, h2⟩
theorem addArcs_row (l : List ArcL) : ∀ (r : List (List Nat)) (p q : Nat), ((addArcs r p l).getD q []).length ≤ (r.getD q []).length + l.length := by
  induction l with
  | nil => intro r p q; simp [addArcs]
  | cons a l ih =>
    intro r p q
    refine Nat.le_trans (ih _ p q) ?_
    simp only [List.getD_eq_getElem?_getD, List.length_cons]
    by_cases e : a.to.toNat = q
    · subst e
      by_cases h : a.to.toNat < r.length
      · simp [h]; omega
      · simp [h]
    · rw [List.getElem?_set_ne e]; omega
theorem backRows_row (ss : List StateL) (q : Nat) : ∀ k, k ≤ ss.length → ((backRows ss k).getD q []).length ≤ ((ss.take k).map (fun s => s.arcs.length)).sum := by
  intro k
  induction k with
  | zero => intro _; simp [backRows, List.getD_eq_getElem?_getD, List.getElem?_replicate]; split <;> simp
  | succ k ih =>
    intro hk
    have hlt : k < ss.length := by omega
    rw [backRows_snoc ss k hlt, List.take_succ_eq_append_getElem hlt, List.map_append, List.sum_append]
    have := addArcs_row ss[k].arcs (backRows ss k) k q
    have := ih (by omega)
    simp only [List.map_cons, List.map_nil, List.sum_cons, List.sum_nil]; omega
/-- what leads to q -/
def backOf (ss : List StateL) (q : Nat) : List Nat := (backRows ss ss.length).getD q []
def endsOf (ss : List StateL) : List Nat := endsUpto ss ss.length
theorem backRows_ok (ss : List StateL) (hv : ∀ s ∈ ss, ∀ a ∈ s.arcs, a.to.toNat < ss.length) (ha : (ss.map (fun s => s.arcs.length)).sum ≤ 400) : ∀ l ∈ backRows ss ss.length, l.length ≤ 400 ∧ ∀ p ∈ l, p < ss.length := by
  intro l hl
  obtain ⟨q, hq, rfl⟩ := List.getElem_of_mem hl
  have e : (backRows ss ss.length).getD q [] = (backRows ss ss.length)[q] := by simp [List.getD_eq_getElem?_getD, hq]
  constructor
  · have := backRows_row ss q ss.length (Nat.le_refl _)
    rw [e, List.take_length] at this
    omega
  · intro p hp
    rw [← e] at hp
    obtain ⟨h, _⟩ := (mem_backRows ss hv q p ss.length (Nat.le_refl _)).1 hp
    exact h
theorem backOf_lt (ss : List StateL) (hv : ∀ s ∈ ss, ∀ a ∈ s.arcs, a.to.toNat < ss.length) (q p : Nat) (hp : p ∈ backOf ss q) : p < ss.length := by
  obtain ⟨h, _⟩ := (mem_backRows ss hv q p ss.length (Nat.le_refl _)).1 hp
  exact h
theorem mem_backOf (ss : List StateL) (hv : ∀ s ∈ ss, ∀ a ∈ s.arcs, a.to.toNat < ss.length) (q p : Nat) : p ∈ backOf ss q ↔ ∃ h : p < ss.length, ∃ a ∈ ss[p].arcs, a.to.toNat = q := by
  unfold backOf
  rw [mem_backRows ss hv q p ss.length (Nat.le_refl _)]
  exact ⟨fun ⟨h, _, h2⟩ => ⟨h, h2⟩, fun ⟨h, h2⟩ => ⟨h, h, h2⟩⟩
theorem mem_endsOf (ss : List StateL) (q : Nat) : q ∈ endsOf ss ↔ ∃ h : q < ss.length, ss[q].final ≠ 1000000001 := by
  unfold endsOf endsUpto
  rw [List.mem_filter]
  constructor
  · rintro ⟨h1, h2⟩
    have h : q < ss.length := by simpa using h1
    exact ⟨h, by simpa [h] using h2⟩
  · rintro ⟨h, h2⟩; exact ⟨by simpa using h, by simpa [h] using h2⟩
end Go.Proofs.Ytlfjccgbngnjhaa
