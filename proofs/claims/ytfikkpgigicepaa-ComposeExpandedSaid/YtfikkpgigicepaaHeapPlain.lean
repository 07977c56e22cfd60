/- Heaps (plain): exchanging elements, going up, going down. -/
import Derived.ProofKit
import Derived.Test.YtfikkpgigicepaaRows
namespace Go.Proofs.Ytfikkpgigicepaa

section
variable {α : Type}
def swapL (l : List α) (i j : Nat) : List α := match l[i]?, l[j]? with
  | some x, some y => (l.set i y).set j x
  | _, _ => l
theorem swapL_eq (l : List α) (i j : Nat) (hi : i < l.length) (hj : j < l.length) : swapL l i j = (l.set i l[j]).set j l[i] := by
  unfold swapL; rw [List.getElem?_eq_getElem hi, List.getElem?_eq_getElem hj]
theorem swapL_len (l : List α) (i j : Nat) : (swapL l i j).length = l.length := by unfold swapL; split <;> simp
theorem swapL_perm (l : List α) (i j : Nat) (hi : i < l.length) (hj : j < l.length) : (swapL l i j).Perm l := by
  have h := Array.swap_perm (xs := l.toArray) (i := i) (j := j) (by simpa using hi) (by simpa using hj)
  rw [Array.perm_iff_toList_perm] at h
  rw [swapL_eq _ _ _ hi hj]
  simpa [Array.swap] using h
theorem swapL_get (l : List α) (i j k : Nat) (hi : i < l.length) (hj : j < l.length) (hk : k < l.length) : (swapL l i j)[k]'(by rw [swapL_len]; exact hk) = if k = j then l[i] else if k = i then l[j] else l[k] := by
  have e := swapL_eq l i j hi hj
  simp only [e]
  by_cases h1 : k = j
  · subst h1; simp
  · rw [List.getElem_set_ne (fun e => h1 e.symm), if_neg h1]
    by_cases h2 : k = i
    · subst h2; simp
    · rw [List.getElem_set_ne (fun e => h2 e.symm), if_neg h2]
end

section
variable {α : Type} (key : α → Int)
/-- the first n elements are a heap -/
def Heap (l : List α) (n : Nat) : Prop := ∀ k (h : k < l.length), 0 < k → k < n → key (l[(k - 1) / 2]'(by omega)) ≤ key l[k]
/-- .. but for j, which may be too small -/
def HeapUp (l : List α) (j : Nat) : Prop :=
  (∀ k (h : k < l.length), 0 < k → k ≠ j → key (l[(k - 1) / 2]'(by omega)) ≤ key l[k]) ∧
  (∀ k (h : k < l.length) (_ : 0 < k) (_ : (k - 1) / 2 = j) (_ : 0 < j), key (l[(j - 1) / 2]'(by omega)) ≤ key l[k])
/-- .. but for i, which may be too great; of the first n -/
def HeapDown (l : List α) (i n : Nat) : Prop :=
  (∀ k (h : k < l.length), 0 < k → k < n → (k - 1) / 2 ≠ i → key (l[(k - 1) / 2]'(by omega)) ≤ key l[k]) ∧
  (∀ k (h : k < l.length) (_ : 0 < k) (_ : k < n) (_ : (k - 1) / 2 = i) (_ : 0 < i), key (l[(i - 1) / 2]'(by omega)) ≤ key l[k])

variable {key}
theorem Heap.push {l : List α} (h : Heap key l l.length) (x : α) : HeapUp key (l ++ [x]) l.length := by
  refine ⟨fun k hk h0 hne => ?_, fun k hk h0 he hp => ?_⟩
  · have hk' : k < l.length := by simp at hk; omega
    rw [List.getElem_append_left hk', List.getElem_append_left (show (k - 1) / 2 < l.length by omega)]
    exact h k hk' h0 hk'
  · simp at hk; omega
theorem HeapUp.done {l : List α} {j : Nat} (h : HeapUp key l j) (hj : j < l.length) (hp : j = 0 ∨ key (l[(j - 1) / 2]'(by omega)) ≤ key l[j]) : Heap key l l.length := by
  intro k hk h0 _
  by_cases e : k = j
  · subst e
    rcases hp with hp | hp
    · omega
    · exact hp
  · exact h.1 k hk h0 e
theorem HeapUp.swap {l : List α} {j : Nat} (h : HeapUp key l j) (hj : j < l.length) (h0 : 0 < j) (hlt : key l[j] < key (l[(j - 1) / 2]'(by omega))) : HeapUp key (swapL l ((j - 1) / 2) j) ((j - 1) / 2) := by
  have hi : (j - 1) / 2 < l.length := by omega
  refine ⟨fun k hk hk0 hne => ?_, fun k hk hk0 he hp => ?_⟩
  · rw [swapL_len] at hk
    rw [swapL_get l _ j ((k - 1) / 2) hi hj (by omega), swapL_get l _ j k hi hj hk]
    by_cases e1 : k = j
    · subst e1
      rw [if_pos rfl, if_neg (by omega), if_pos rfl]; omega
    · rw [if_neg e1, if_neg hne]
      by_cases e2 : (k - 1) / 2 = j
      · rw [if_pos e2]
        exact h.2 k hk hk0 e2 h0
      · rw [if_neg e2]
        have h1 := h.1 k hk hk0 e1
        by_cases e3 : (k - 1) / 2 = (j - 1) / 2
        · rw [if_pos e3]
          simp only [e3] at h1
          omega
        · rw [if_neg e3]; exact h1
  · rw [swapL_len] at hk
    rw [swapL_get l _ j (((j - 1) / 2 - 1) / 2) hi hj (by omega), swapL_get l _ j k hi hj hk]
    have h3 := h.1 ((j - 1) / 2) hi (by omega) (by omega)
    rw [if_neg (show ¬ ((j - 1) / 2 - 1) / 2 = j by omega), if_neg (show ¬ ((j - 1) / 2 - 1) / 2 = (j - 1) / 2 by omega)]
    by_cases e1 : k = j
    · rw [if_pos e1]; exact h3
    · rw [if_neg e1, if_neg (show ¬ k = (j - 1) / 2 by omega)]
      have h4 := h.1 k hk hk0 e1
      simp only [he] at h4
      omega
theorem HeapDown.done {l : List α} {i n : Nat} (h : HeapDown key l i n) (hc : ∀ k (hk : k < l.length) (_ : 0 < k) (_ : k < n) (_ : (k - 1) / 2 = i), key (l[i]'(by omega)) ≤ key l[k]) : Heap key l n := by
  intro k hk h0 hn
  by_cases e : (k - 1) / 2 = i
  · have := hc k hk h0 hn e
    simp only [e]; exact this
  · exact h.1 k hk h0 hn e
theorem HeapDown.swap {l : List α} {i j n : Nat} (h : HeapDown key l i n) (hn : n ≤ l.length) (hj : j < n) (hp : (j - 1) / 2 = i) (h0 : 0 < j) (hlt : key (l[j]'(by omega)) ≤ key (l[i]'(by omega)))
    (hmin : ∀ k (hk : k < l.length), 0 < k → k < n → (k - 1) / 2 = i → key (l[j]'(by omega)) ≤ key l[k]) : HeapDown key (swapL l i j) j n := by
  have hil : i < l.length := by omega
  have hjl : j < l.length := by omega
  refine ⟨fun k hk hk0 hkn hne => ?_, fun k hk hk0 hkn he _ => ?_⟩
  · rw [swapL_len] at hk
    rw [swapL_get l i j ((k - 1) / 2) hil hjl (by omega), swapL_get l i j k hil hjl hk]
    rw [if_neg hne]
    by_cases e1 : k = j
    · subst e1
      rw [if_pos hp, if_pos rfl]; exact hlt
    · rw [if_neg e1]
      by_cases e2 : (k - 1) / 2 = i
      · rw [if_pos e2, if_neg (by omega)]
        exact hmin k hk hk0 hkn e2
      · rw [if_neg e2]
        by_cases e3 : k = i
        · subst e3
          rw [if_pos rfl]
          have := h.2 j hjl h0 hj hp hk0
          exact this
        · rw [if_neg e3]; exact h.1 k hk hk0 hkn e2
  · rw [swapL_len] at hk
    rw [swapL_get l i j ((j - 1) / 2) hil hjl (by omega), swapL_get l i j k hil hjl hk]
    rw [if_neg (show ¬ (j - 1) / 2 = j by omega), if_pos hp, if_neg (show ¬ k = j by omega), if_neg (show ¬ k = i by omega)]
    have := h.1 k hk hk0 hkn (by omega)
    simp only [he] at this
    exact this
/-- the first element of a heap is the least -/
theorem Heap.root {l : List α} (h : Heap key l l.length) : ∀ k (hk : k < l.length), key (l[0]'(by omega)) ≤ key l[k] := by
  intro k
  induction k using Nat.strongRecOn with
  | _ k ih =>
    intro hk
    rcases Nat.eq_zero_or_pos k with h0 | h0
    · subst h0; exact Int.le_refl _
    · have h1 := h k hk h0 hk
      have h2 := ih ((k - 1) / 2) (by omega) (by omega)
      omega
/-- when the first and the last element have changed places -/
theorem Heap.take {l : List α} (h : Heap key l l.length) (h0 : 0 < l.length) : HeapDown key (swapL l 0 (l.length - 1)) 0 (l.length - 1) := by
  refine ⟨fun k hk hk0 hkn hne => ?_, fun k hk hk0 hkn he hp => by omega⟩
  rw [swapL_len] at hk
  rw [swapL_get l 0 (l.length - 1) ((k - 1) / 2) h0 (by omega) (by omega), swapL_get l 0 (l.length - 1) k h0 (by omega) hk]
  rw [if_neg (show ¬ (k - 1) / 2 = l.length - 1 by omega), if_neg hne, if_neg (show ¬ k = l.length - 1 by omega), if_neg (show ¬ k = 0 by omega)]
  exact h k hk hk0 hk
end
end Go.Proofs.Ytfikkpgigicepaa
