/- The n cheapest of all whole ways: what best.Costs holds on its way (plain, over any beginnings). -/
import Derived.ProofKit
import Derived.Test.YtndajklppipckaaRows
namespace Go.Proofs.Ytndajklppipckaa

/-- beginnings are lists of arc numbers, the last one first -/
structure Begs where
  V : List Nat → Prop
  q : List Nat → Nat
  c : List Nat → Int
  E : Nat → Prop
  fin : Nat → Int
  d : Nat → Int
  /-- what may follow one beginning may follow another one at the same state -/
  same : ∀ e p p', q p = q p' → V p' → V (e ++ p) → V (e ++ p') ∧ q (e ++ p') = q (e ++ p) ∧ c (e ++ p') - c p' = c (e ++ p) - c p
  /-- d is no more than what an end costs -/
  low : ∀ e p, V (e ++ p) → E (q (e ++ p)) → c p + d (q p) ≤ c (e ++ p) + fin (q (e ++ p))
  back : ∀ e p, V (e ++ p) → V p
/-- what a whole way costs -/
def Begs.cost (b : Begs) (w : List Nat) : Int := b.c w + b.fin (b.q w)
/-- O: beginnings in the heap, EN: ended ways in it, ex: taken out and led on, Dr: taken out and dropped, ps: emitted, v: how far it has come -/
structure CInv (b : Begs) (n : Nat) (O EN ex Dr ps : List (List Nat)) (v : Int) : Prop where
  cov0 : b.V [] → [] ∈ O ∨ [] ∈ ex ∨ [] ∈ Dr
  cov : ∀ p ∈ ex, ∀ i, b.V (i :: p) → (i :: p) ∈ O ∨ (i :: p) ∈ ex ∨ (i :: p) ∈ Dr
  cove : ∀ p ∈ ex, b.E (b.q p) → p ∈ EN ∨ p ∈ ps
  drop : ∀ p ∈ Dr, ∃ xs : List (List Nat), xs.Nodup ∧ xs.length = n ∧ ∀ x ∈ xs, x ∈ ex ∧ b.q x = b.q p ∧ b.c x ≤ b.c p
  lo : ∀ p ∈ O, v ≤ b.c p + b.d (b.q p)
  loe : ∀ p ∈ EN, v ≤ b.cost p
  hi : ∀ p ∈ ps, b.cost p ≤ v
  vx : ∀ p ∈ ex, b.V p
  nd : ps.Nodup
  len : ps.length ≤ n
theorem nodup_sub_len {α : Type} [DecidableEq α] : ∀ (l l' : List α), l.Nodup → (∀ x ∈ l, x ∈ l') → l.length ≤ l'.length := by
  intro l
  induction l with
  | nil => intro l' _ _; simp
  | cons a l ih =>
    intro l' hn hs
    obtain ⟨h1, h2⟩ := List.nodup_cons.1 hn
    have h3 := ih (l'.erase a) h2 (fun x hx => by
      have h4 := hs x (by simp [hx])
      exact (List.mem_erase_of_ne (fun (e : x = a) => by subst e; exact h1 hx)).2 h4)
    have h5 := List.length_erase_of_mem (hs a (by simp))
    have h6 := List.length_pos_of_mem (hs a (by simp))
    rw [List.length_cons]
    omega
/-- of two lists without doubles, one in the other and as long, the other has no more -/
theorem nodup_all {α : Type} [DecidableEq α] (l l' : List α) (hn : l.Nodup) (hs : ∀ x ∈ l, x ∈ l') (hl : l'.length ≤ l.length) : ∀ x ∈ l', x ∈ l := by
  intro x hx
  apply Classical.byContradiction
  intro hne
  have h1 := nodup_sub_len (x :: l) l' (List.nodup_cons.2 ⟨hne, hn⟩) (fun y hy => by
    rcases List.mem_cons.1 hy with rfl | hy
    · exact hx
    · exact hs y hy)
  rw [List.length_cons] at h1
  omega
section
variable {b : Begs} {n : Nat} {O EN ex Dr ps : List (List Nat)} {v : Int}
/-- w is emitted, or n are that cost no more -/
def Told (b : Begs) (n : Nat) (ps : List (List Nat)) (w : List Nat) : Prop := w ∈ ps ∨ (ps.length = n ∧ ∀ p ∈ ps, b.cost p ≤ b.cost w)
/-- a dropped beginning -/
theorem CInv.dropTold' (h : CInv b n O EN ex Dr ps v) {e p : List Nat} (hp : p ∈ Dr) (hv : b.V (e ++ p)) (_ : b.E (b.q (e ++ p))) (hx : ∀ p, b.V (e ++ p) → b.E (b.q (e ++ p)) → p ∈ ex → Told b n ps (e ++ p)) : Told b n ps (e ++ p) := by
  rename_i he
  obtain ⟨xs, h1, h2, h3⟩ := h.drop p hp
  have key : ∀ x ∈ xs, b.V (e ++ x) ∧ b.E (b.q (e ++ x)) ∧ b.cost (e ++ x) ≤ b.cost (e ++ p) := fun x hxs => by
    obtain ⟨g1, g2, g3⟩ := h3 x hxs
    obtain ⟨f1, f2, f3⟩ := b.same e p x g2.symm (h.vx x g1) hv
    refine ⟨f1, by rw [f2]; exact he, ?_⟩
    unfold Begs.cost
    rw [f2]
    omega
  by_cases hall : ∀ x ∈ xs, e ++ x ∈ ps
  · right
    have hn1 : (xs.map (fun x => e ++ x)).Nodup := by
      exact List.pairwise_map.2 (h1.imp (fun hne he => hne (List.append_cancel_left he)))
    have hs1 : ∀ y ∈ xs.map (fun x => e ++ x), y ∈ ps := fun y hy => by
      obtain ⟨x, hx1, rfl⟩ := List.mem_map.1 hy
      exact hall x hx1
    have hl1 := nodup_sub_len _ _ hn1 hs1
    rw [List.length_map, h2] at hl1
    have hln := h.len
    refine ⟨by omega, fun y hy => ?_⟩
    have hy2 := nodup_all _ _ hn1 hs1 (by rw [List.length_map, h2]; exact hln) y hy
    obtain ⟨x, hx1, rfl⟩ := List.mem_map.1 hy2
    exact (key x hx1).2.2
  · obtain ⟨x, hx1⟩ := Classical.not_forall.1 hall
    obtain ⟨hx2, hx3⟩ := Classical.not_imp.1 hx1
    obtain ⟨g1, g2, g3⟩ := key x hx2
    rcases hx x g1 g2 (h3 x hx2).1 with h9 | ⟨h9, h10⟩
    · exact absurd h9 hx3
    · exact .inr ⟨h9, fun y hy => Int.le_trans (h10 y hy) g3⟩
theorem CInv.told (h : CInv b n O EN ex Dr ps v) (hend : (O = [] ∧ EN = []) ∨ ps.length = n) : ∀ (k : Nat) (e p : List Nat), e.length ≤ k → b.V (e ++ p) → b.E (b.q (e ++ p)) → (p ∈ O ∨ p ∈ ex ∨ p ∈ Dr) → Told b n ps (e ++ p) := by
  have hO : ∀ e p, b.V (e ++ p) → b.E (b.q (e ++ p)) → p ∈ O → Told b n ps (e ++ p) := fun e p hv he hp => by
    right
    refine ⟨hend.resolve_left (fun g => by rw [g.1] at hp; cases hp), fun x hx => ?_⟩
    have h1 := h.hi x hx
    have h2 := h.lo p hp
    have h3 := b.low e p hv he
    unfold Begs.cost at *
    omega
  intro k
  induction k with
  | zero =>
    intro e p hk hv he hp
    have e0 : e = [] := List.eq_nil_of_length_eq_zero (by omega)
    subst e0
    have hx : ∀ p, b.V p → b.E (b.q p) → p ∈ ex → Told b n ps p := fun p hv he hp => by
      rcases h.cove p hp he with h1 | h1
      · right
        refine ⟨hend.resolve_left (fun g => by rw [g.2] at h1; cases h1), fun x hx => ?_⟩
        have h2 := h.hi x hx
        have h3 := h.loe p h1
        omega
      · exact .inl h1
    rcases hp with hp | hp | hp
    · exact hO [] p hv he hp
    · exact hx p hv he hp
    · exact h.dropTold' (e := []) hp hv he hx
  | succ k ih =>
    intro e p hk hv he hp
    have hx : ∀ p, b.V (e ++ p) → b.E (b.q (e ++ p)) → p ∈ ex → Told b n ps (e ++ p) := fun p hv he hp => by
      rcases Nat.lt_or_ge k e.length with hlt | hge
      · obtain ⟨e', i, rfl⟩ : ∃ e' i, e = e' ++ [i] := ⟨_, _, (List.dropLast_concat_getLast (fun e0 => by rw [e0] at hlt; simp at hlt)).symm⟩
        have e1 : e' ++ [i] ++ p = e' ++ (i :: p) := by simp
        rw [e1] at hv he ⊢
        exact ih e' (i :: p) (by simp at hk; omega) hv he (h.cov p hp i (b.back e' _ hv))
      · exact ih e p hge hv he (.inr (.inl hp))
    rcases hp with hp | hp | hp
    · exact hO e p hv he hp
    · exact hx p hv he hp
    · exact h.dropTold' hp hv he hx
end
end Go.Proofs.Ytndajklppipckaa
