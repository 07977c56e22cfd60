/- What a flood reaches (plain). -/
import Derived.WalkKit
namespace Go.Proofs.Ytikkmoleneioeaa

/-- a state is met: seen or not -/
def visit (x : List Bool × List Nat) (p : Nat) : List Bool × List Nat := if x.1.getD p true = true then x else (x.1.set p true, x.2 ++ [p])
def visits (x : List Bool × List Nat) (ps : List Nat) : List Bool × List Nat := ps.foldl visit x
def lack (l : List Bool) : Nat := l.count false

theorem visit_eq_seen {x : List Bool × List Nat} {p : Nat} (h : x.1.getD p true = true) : visit x p = x := by unfold visit; rw [if_pos h]
theorem visit_eq_new {x : List Bool × List Nat} {p : Nat} (h : x.1.getD p true = false) : visit x p = (x.1.set p true, x.2 ++ [p]) := by unfold visit; rw [if_neg (by rw [h]; simp)]
theorem visit_len (x : List Bool × List Nat) (p : Nat) : (visit x p).1.length = x.1.length := by unfold visit; split <;> simp
theorem visits_len (ps : List Nat) : ∀ x : List Bool × List Nat, (visits x ps).1.length = x.1.length := by
  induction ps with
  | nil => intro x; rfl
  | cons p ps ih => intro x; exact (ih _).trans (visit_len x p)
theorem visits_snoc (x : List Bool × List Nat) (ps : List Nat) (p : Nat) : visits x (ps ++ [p]) = visit (visits x ps) p := by simp [visits]

theorem lack_set (l : List Bool) (p : Nat) (h : l.getD p true = false) : lack (l.set p true) + 1 = lack l := by
  unfold lack
  induction l generalizing p with
  | nil => simp at h
  | cons b l ih =>
    cases p with
    | zero => simp at h; subst h; simp
    | succ p =>
      have := ih p (by simpa using h)
      simp only [List.set_cons_succ, List.count_cons]
      omega
theorem visit_size (x : List Bool × List Nat) (p : Nat) : (visit x p).2.length + lack (visit x p).1 = x.2.length + lack x.1 := by
  unfold visit; split
  · rfl
  · rename_i h
    have := lack_set x.1 p (by simpa using h)
    simp; omega
theorem visits_size (ps : List Nat) : ∀ x : List Bool × List Nat, (visits x ps).2.length + lack (visits x ps).1 = x.2.length + lack x.1 := by
  induction ps with
  | nil => intro x; rfl
  | cons p ps ih => intro x; exact (ih _).trans (visit_size x p)

theorem getD_set_self {l : List Bool} {p : Nat} (h : l.getD p true = false) : (l.set p true).getD p false = true := by
  have hp : p < l.length := by
    rcases Nat.lt_or_ge p l.length with h' | h'
    · exact h'
    · simp [List.getD_eq_getElem?_getD, List.getElem?_eq_none h'] at h
  simp [List.getD_eq_getElem?_getD, hp]
theorem getD_set_mono {l : List Bool} {p q : Nat} (h : l.getD q false = true) : (l.set p true).getD q false = true := by
  have hq : q < l.length := by
    rcases Nat.lt_or_ge q l.length with h' | h'
    · exact h'
    · simp [List.getD_eq_getElem?_getD, List.getElem?_eq_none h'] at h
  by_cases e : p = q
  · subst e; simp [List.getD_eq_getElem?_getD, hq]
  · simp only [List.getD_eq_getElem?_getD] at h ⊢
    rw [List.getElem?_set_ne e]; exact h
theorem getD_set_or {l : List Bool} {p q : Nat} (h : (l.set p true).getD q false = true) : l.getD q false = true ∨ q = p := by
  by_cases e : q = p
  · exact .inr e
  · left
    simp only [List.getD_eq_getElem?_getD] at h ⊢
    rw [List.getElem?_set_ne (fun h => e h.symm)] at h
    exact h
theorem visit_mono (x : List Bool × List Nat) (p q : Nat) (h : x.1.getD q false = true) : (visit x p).1.getD q false = true := by
  unfold visit; split
  · exact h
  · exact getD_set_mono h
theorem visits_mono (ps : List Nat) : ∀ (x : List Bool × List Nat) (q : Nat), x.1.getD q false = true → (visits x ps).1.getD q false = true := by
  induction ps with
  | nil => intro x q h; exact h
  | cons p ps ih => intro x q h; exact ih _ q (visit_mono x p q h)
theorem visit_hit (x : List Bool × List Nat) (p : Nat) (hp : p < x.1.length) : (visit x p).1.getD p false = true := by
  unfold visit; split
  · rename_i h; simp [List.getD_eq_getElem?_getD, hp] at h ⊢; exact h
  · rename_i h; exact getD_set_self (by simpa using h)
theorem visits_hit (ps : List Nat) : ∀ (x : List Bool × List Nat), (∀ p ∈ ps, p < x.1.length) → ∀ p ∈ ps, (visits x ps).1.getD p false = true := by
  induction ps with
  | nil => intro x _ p hp; simp at hp
  | cons a ps ih =>
    intro x hx p hp
    rcases List.mem_cons.1 hp with rfl | hp
    · exact visits_mono ps _ p (visit_hit x p (hx p (by simp)))
    · exact ih (visit x a) (fun q hq => by rw [visit_len]; exact hx q (by simp [hq])) p hp

/-- what has been found so far: all that is seen can be reached; all that is seen is to be looked at still, or all that it leads to is seen -/
structure Found (R : Nat → Prop) (succ : Nat → List Nat) (x : List Bool × List Nat) (open_ : List Nat) : Prop where
  sound : ∀ q, x.1.getD q false = true → R q
  todo : ∀ q ∈ x.2, x.1.getD q false = true ∧ q < x.1.length
  done : ∀ q, x.1.getD q false = true → q ∈ x.2 ∨ q ∈ open_ ∨ ∀ p ∈ succ q, x.1.getD p false = true

theorem Found.visitOne {R : Nat → Prop} {succ : Nat → List Nat} {x : List Bool × List Nat} {o : List Nat} (h : Found R succ x o) (p : Nat) (hp : p < x.1.length) (hR : R p) : Found R succ (visit x p) o := by
  by_cases hs : x.1.getD p true = true
  · rw [visit_eq_seen hs]; exact h
  · have hs' : x.1.getD p true = false := by simpa using hs
    rw [visit_eq_new hs']
    refine ⟨fun q hq => ?_, fun q hq => ?_, fun q hq => ?_⟩
    · rcases getD_set_or hq with hq | rfl
      · exact h.sound q hq
      · exact hR
    · rcases List.mem_append.1 hq with hq | hq
      · exact ⟨getD_set_mono (h.todo q hq).1, by simpa using (h.todo q hq).2⟩
      · simp at hq; subst hq; exact ⟨getD_set_self hs', by simpa using hp⟩
    · rcases getD_set_or hq with hq | rfl
      · rcases h.done q hq with h1 | h1 | h1
        · exact .inl (List.mem_append.2 (.inl h1))
        · exact .inr (.inl h1)
        · exact .inr (.inr fun p' hp' => getD_set_mono (h1 p' hp'))
      · exact .inl (by simp)
theorem Found.visitAll {R : Nat → Prop} {succ : Nat → List Nat} {o : List Nat} (ps : List Nat) : ∀ {x : List Bool × List Nat}, Found R succ x o → (∀ p ∈ ps, p < x.1.length ∧ R p) → Found R succ (visits x ps) o := by
  induction ps with
  | nil => intro x h _; exact h
  | cons p ps ih =>
    intro x h hp
    exact ih (h.visitOne p (hp p (by simp)).1 (hp p (by simp)).2) (fun q hq => ⟨by rw [visit_len]; exact (hp q (by simp [hq])).1, (hp q (by simp [hq])).2⟩)
/-- a round: the last one is taken, what it leads to is met -/
theorem Found.round {R : Nat → Prop} {succ : Nat → List Nat} {seen : List Bool} {todo : List Nat} {q : Nat} (h : Found R succ (seen, todo ++ [q]) []) (hs : ∀ q, R q → ∀ p ∈ succ q, R p ∧ p < seen.length) : Found R succ (visits (seen, todo) (succ q)) [] := by
  have hq := h.todo q (by simp)
  have hR := h.sound q hq.1
  have h1 : Found R succ (seen, todo) [q] := by
    refine ⟨h.sound, fun p hp => h.todo p (by simp at hp ⊢; exact .inl hp), fun p hp => ?_⟩
    rcases h.done p hp with h2 | h2 | h2
    · rcases List.mem_append.1 h2 with h3 | h3
      · exact .inl h3
      · exact .inr (.inl h3)
    · simp at h2
    · exact .inr (.inr h2)
  have h2 := Found.visitAll (succ q) h1 (fun p hp => ⟨(hs q hR p hp).2, (hs q hR p hp).1⟩)
  refine ⟨h2.sound, h2.todo, fun p hp => ?_⟩
  rcases h2.done p hp with h3 | h3 | h3
  · exact .inl h3
  · simp at h3; subst h3
    exact .inr (.inr fun p' hp' => visits_hit (succ p) (seen, todo) (fun r hr => (hs p hR r hr).2) p' hp')
  · exact .inr (.inr h3)

/-- what can be reached from some states -/
inductive Reach (succ : Nat → List Nat) (from_ : List Nat) : Nat → Prop
  | start {q : Nat} : q ∈ from_ → Reach succ from_ q
  | step {q p : Nat} : Reach succ from_ q → p ∈ succ q → Reach succ from_ p

theorem Found.end_ {succ : Nat → List Nat} {from_ : List Nat} {seen : List Bool} (h : Found (Reach succ from_) succ (seen, []) []) (hf : ∀ q ∈ from_, seen.getD q false = true) (q : Nat) : seen.getD q false = true ↔ Reach succ from_ q := by
  constructor
  · exact h.sound q
  · intro hr
    induction hr with
    | start hq => exact hf _ hq
    | step _ hp ih =>
      rcases h.done _ ih with h1 | h1 | h1
      · simp at h1
      · simp at h1
      · exact h1 _ hp

def marked (seen : List Bool) (l : List Nat) : List Bool := l.foldl (fun s p => s.set p true) seen
theorem marked_len (l : List Nat) : ∀ s : List Bool, (marked s l).length = s.length := by
  induction l with
  | nil => intro s; rfl
  | cons p l ih => intro s; exact (ih _).trans (by simp)
theorem marked_snoc (s : List Bool) (l : List Nat) (p : Nat) : marked s (l ++ [p]) = (marked s l).set p true := by simp [marked]
theorem marked_or (l : List Nat) : ∀ (s : List Bool) (q : Nat), (marked s l).getD q false = true → s.getD q false = true ∨ q ∈ l := by
  induction l with
  | nil => intro s q h; exact .inl h
  | cons p l ih =>
    intro s q h
    rcases ih _ q h with h1 | h1
    · rcases getD_set_or h1 with h2 | h2
      · exact .inl h2
      · exact .inr (by simp [h2])
    · exact .inr (by simp [h1])
theorem marked_mono (l : List Nat) : ∀ (s : List Bool) (q : Nat), s.getD q false = true → (marked s l).getD q false = true := by
  induction l with
  | nil => intro s q h; exact h
  | cons p l ih => intro s q h; exact ih _ q (getD_set_mono h)
theorem marked_hit (l : List Nat) : ∀ (s : List Bool), (∀ p ∈ l, p < s.length) → ∀ p ∈ l, (marked s l).getD p false = true := by
  induction l with
  | nil => intro s _ p hp; simp at hp
  | cons a l ih =>
    intro s hs p hp
    rcases List.mem_cons.1 hp with rfl | hp
    · refine marked_mono l _ p ?_
      have := hs p (by simp)
      simp [List.getD_eq_getElem?_getD, this]
    · exact ih _ (fun q hq => by simpa using hs q (by simp [hq])) p hp
theorem found_start (n : Nat) (from_ : List Nat) (succ : Nat → List Nat) (hf : ∀ p ∈ from_, p < n) : Found (Reach succ from_) succ (marked (List.replicate n false) from_, from_) [] := by
  have hit := marked_hit from_ (List.replicate n false) (fun p hp => by simpa using hf p hp)
  refine ⟨fun q hq => ?_, fun q hq => ⟨hit q hq, by rw [marked_len]; simpa using hf q hq⟩, fun q hq => ?_⟩
  · rcases marked_or from_ _ q hq with h | h
    · simp [List.getD_eq_getElem?_getD, List.getElem?_replicate] at h
      split at h <;> simp at h
    · exact .start h
  · rcases marked_or from_ _ q hq with h | h
    · simp [List.getD_eq_getElem?_getD, List.getElem?_replicate] at h
      split at h <;> simp at h
    · exact .inl h
end Go.Proofs.Ytikkmoleneioeaa
