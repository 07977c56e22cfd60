/- A slice of slices of the call's own, whose rows grow one by one. -/
import Derived.Test.YtkmnacchiagipaaDoorSlices
import Derived.Test.YtkmnacchiagipaaDoorMem
namespace Go.Proofs.YtkmnacchiagipaaDoor
open Go.RowKit

/-- two slices lie in no common block -/
def Apart (a b : Value) : Prop := ∀ k, a.ownBlock = some k → b.ownBlock ≠ some k
theorem Apart.symm {a b : Value} (h : Apart a b) : Apart b a := fun k h1 h2 => h k h2 h1
theorem apart_nil (b : Value) : Apart (.slice none 0 0) b := fun k h => by simp [Value.ownBlock] at h

section
variable {τ : Type}
structure Grid (enc : τ → List Value) (e et : TypeId) (size B : Nat) (w : World) (G : Nat) (vs : List Value) (rows : List (List τ)) : Prop where
  outer : Blk w G vs.toArray et
  len : vs.length = rows.length
  own : ∀ i (h : i < rows.length) (h' : i < vs.length), w.ownsRow B e size vs[i] rows[i].length (rows[i].flatMap enc)
  apart : ∀ i j (hi : i < vs.length) (hj : j < vs.length), i ≠ j → Apart vs[i] vs[j]
  ne : ∀ i (h : i < vs.length), vs[i].ownBlock ≠ some G

variable {enc : τ → List Value} {e et : TypeId} {size B : Nat} {w w' : World} {G : Nat} {vs : List Value} {rows : List (List τ)}
theorem Grid.made (w : World) (n : Nat) : Grid enc e et size B (w.alloc (.cells (List.replicate n (.slice none 0 0)).toArray et)) w.heap.size (List.replicate n (.slice none 0 0)) (List.replicate n []) :=
  ⟨Blk.new _ _ _, by simp, fun i h h' => by simpa using World.ownsRow_nil _ _ _ _, fun i j hi hj _ => by simpa using apart_nil _, fun i h => by simp [Value.ownBlock]⟩
theorem Grid.keep (h : Grid enc e et size B w G vs rows) (hb : Below w.heap.size w w') : Grid enc e et size B w' G vs rows :=
  ⟨h.outer.step hb, h.len, fun i hi hi' => own_below (h.own i hi hi') hb (Nat.le_refl _), h.apart, h.ne⟩
theorem Grid.far (h : Grid enc e et size B w G vs rows) {a : Addr} (h1 : a.block ≠ G) (h2 : ∀ i (hi : i < vs.length), vs[i].ownBlock ≠ some a.block) (u : Value) : Grid enc e et size B (w.setCell a u) G vs rows :=
  ⟨h.outer.far (fun e => h1 e.symm) _, h.len, fun i hi hi' => own_setCell (h.own i hi hi') (h2 i hi') u, h.apart, h.ne⟩
theorem Grid.grown (h : Grid enc e et size B w G vs rows) {row : Option Nat} (hg : w.grownBy w' row) (h1 : row ≠ some G) (h2 : ∀ i (hi : i < vs.length) k, vs[i].ownBlock = some k → row ≠ some k) : Grid enc e et size B w' G vs rows :=
  ⟨h.outer.grown hg h1.symm, h.len, fun i hi hi' => World.ownsRow.kept (h.own i hi hi') hg (by
    cases hb : (vs[i]).ownBlock with
    | none => exact .inl rfl
    | some k => exact .inr (fun e => h2 i hi' k hb e.symm)), h.apart, h.ne⟩
theorem Grid.block_lt (h : Grid enc e et size B w G vs rows) {i : Nat} (hi : i < vs.length) {k : Nat} (hk : vs[i].ownBlock = some k) : B ≤ k ∧ k < w.heap.size :=
  (h.own i (by rw [← h.len]; exact hi) hi).lt k hk
/-- a row grows by one element -/
theorem Grid.put (h : Grid enc e et size B w G vs rows) (q : Nat) (hq : q < rows.length) (x : τ) {v' : Value} {n : Nat} (hn : n = rows[q].length + 1) (hg : w.grownBy w' (vs[q]'(by rw [h.len]; exact hq)).ownBlock)
    (hx : w'.ownsRow B e size v' n (rows[q].flatMap enc ++ enc x)) (hat : ∀ k, v'.ownBlock = some k → (vs[q]'(by rw [h.len]; exact hq)).ownBlock = some k ∨ w.heap.size ≤ k) :
    Grid enc e et size B (w'.setCell ⟨G, q, none⟩ v') G (vs.set q v') (rows.set q (rows[q] ++ [x])) := by
  have hqv : q < vs.length := by rw [h.len]; exact hq
  have gl := h.outer.lt
  have hvG : v'.ownBlock ≠ some G := fun e => by
    rcases hat G e with h1 | h1
    · exact h.ne q hqv h1
    · omega
  have ap : ∀ i (hi : i < vs.length), i ≠ q → Apart v' vs[i] := fun i hi hne k hk hk2 => by
    rcases hat k hk with h1 | h1
    · exact h.apart q i hqv hi (fun e => hne e.symm) k h1 hk2
    · have := (h.block_lt hi hk2).2; omega
  refine ⟨?_, by simp [h.len], fun i hi hi' => ?_, fun i j hi hj hij => ?_, fun i hi => ?_⟩
  · have := (h.outer.grown hg (fun e => h.ne q hqv e.symm)).put q v'
    simpa using this
  · by_cases e : q = i
    · subst e
      simp only [List.getElem_set_self]
      subst hn
      have := own_setCell hx (a := ⟨G, q, none⟩) hvG v'
      simpa using this
    · rw [List.getElem_set_ne e, List.getElem_set_ne e]
      have hi1 : i < rows.length := by simpa using hi
      have hi2 : i < vs.length := by simpa using hi'
      have o := World.ownsRow.kept (h.own i hi1 hi2) hg (by
        cases hb : (vs[i]).ownBlock with
        | none => exact .inl rfl
        | some k => exact .inr (fun e2 => h.apart i q hi2 hqv (fun e3 => e e3.symm) k hb e2.symm))
      exact own_setCell o (h.ne i hi2) _
  · by_cases e1 : q = i
    · subst e1
      simp only [List.getElem_set_self]
      rw [List.getElem_set_ne hij]
      exact ap j (by simpa using hj) (fun e => hij e.symm)
    · rw [List.getElem_set_ne e1]
      by_cases e2 : q = j
      · subst e2
        simp only [List.getElem_set_self]
        exact (ap i (by simpa using hi) (fun e => hij e)).symm
      · rw [List.getElem_set_ne e2]
        exact h.apart i j (by simpa using hi) (by simpa using hj) hij
  · by_cases e : q = i
    · subst e; simpa using hvG
    · rw [List.getElem_set_ne e]; exact h.ne i (by simpa using hi)
theorem Grid.form (h : Grid enc e et size B w G vs rows) (q : Nat) (hq : q < rows.length) : ∃ A c, vs[q]'(by rw [h.len]; exact hq) = .slice A rows[q].length c ∧ rows[q].length ≤ c ∧ c ≤ maxLen := own_form (h.own q hq (by rw [h.len]; exact hq))
theorem Grid.cell (h : Grid enc e et size B w G vs rows) (q : Nat) (hq : q < rows.length) : w.cell? ⟨G, q, none⟩ = some (vs[q]'(by rw [h.len]; exact hq)) := by
  rw [h.outer.cell q]
  have : q < vs.length := by rw [h.len]; exact hq
  simp [this]
end
end Go.Proofs.YtkmnacchiagipaaDoor
