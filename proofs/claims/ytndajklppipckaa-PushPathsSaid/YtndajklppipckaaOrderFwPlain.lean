/- What OrderForward asks, plain. -/
import Derived.Test.YtndajklppipckaaForwardPlain
import Derived.Test.YtndajklppipckaaOrderPlain
namespace Go.Proofs.Ytndajklppipckaa
open Go.RowKit

theorem mem_tos {m : MachL} {p q : Nat} (h : q ∈ tos m p) : ∃ (hp : p < m.states.length), ∃ a ∈ m.states[p].arcs, a.to.toNat = q := by
  unfold tos at h
  rcases Nat.lt_or_ge p m.states.length with hp | hp
  · rw [List.getElem?_eq_getElem hp] at h
    simp only [Option.map_some, Option.getD_some] at h
    obtain ⟨a, ha, e⟩ := List.mem_map.1 h
    exact ⟨hp, a, ha, e⟩
  · rw [List.getElem?_eq_none hp] at h
    simp at h
theorem fwd_tos {m : MachL} (hf : Fwd m) {p q : Nat} (h : q ∈ tos m p) : p < q := by
  obtain ⟨hp, a, ha, rfl⟩ := mem_tos h
  have := hf p hp a ha
  omega
theorem fwd_not_stuck {m : MachL} (hf : Fwd m) {S : Nat → Prop} (h : Stuck m S) : False := by
  obtain ⟨⟨q, hq⟩, hs⟩ := h
  have key : ∀ n q, q ≤ n → S q → False := by
    intro n
    induction n with
    | zero =>
      intro q hn hq
      obtain ⟨-, p, -, ht⟩ := hs q hq
      have := fwd_tos hf ht
      omega
    | succ n ih =>
      intro q hn hq
      obtain ⟨-, p, hp, ht⟩ := hs q hq
      have := fwd_tos hf ht
      exact ih p (by omega) hp
  exact key q q (Nat.le_refl _) hq

/-- where the first k of the order stand, from 1 on; 0: not among them -/
def posA (n : Nat) (out : List Nat) (k : Nat) : List Int := (List.range n).map fun q => if q ∈ out.take k then (out.idxOf q : Int) + 1 else 0
theorem posA_len (n : Nat) (out : List Nat) (k : Nat) : (posA n out k).length = n := by simp [posA]
theorem posA_zero (n : Nat) (out : List Nat) : posA n out 0 = List.replicate n 0 := by
  unfold posA
  apply List.ext_getElem
  · simp
  · intro i h1 h2; simp
theorem posA_at {n : Nat} {out : List Nat} (hd : out.Nodup) (k : Nat) (hk : k < out.length) (hn : out[k] < n) : (posA n out k).getD out[k] 0 = 0 := by
  unfold posA
  rw [List.getD_eq_getElem?_getD, List.getElem?_eq_getElem (by simpa using hn)]
  simp only [List.getElem_map, List.getElem_range, Option.getD_some]
  rw [if_neg]
  intro h
  obtain ⟨i, hi, e⟩ := List.getElem_of_mem h
  simp at hi
  rw [List.getElem_take] at e
  have h3 := List.Nodup.idxOf_getElem hd i (by omega)
  have h4 := List.Nodup.idxOf_getElem hd k hk
  rw [e] at h3
  omega
theorem posA_set {n : Nat} {out : List Nat} (hd : out.Nodup) (k : Nat) (hk : k < out.length) : (posA n out k).set out[k] ((k : Int) + 1) = posA n out (k + 1) := by
  unfold posA
  have hidx : out.idxOf out[k] = k := List.Nodup.idxOf_getElem hd k hk
  apply List.ext_getElem
  · simp
  · intro i h1 h2
    simp at h1
    have ht : out.take (k + 1) = out.take k ++ [out[k]] := List.take_succ_eq_append_getElem hk
    by_cases e : out[k] = i
    · subst e
      simp only [List.getElem_set_self, List.getElem_map, List.getElem_range]
      rw [if_pos (by rw [ht]; exact List.mem_append_right _ (by simp)), hidx]
    · rw [List.getElem_set_ne e]
      simp only [List.getElem_map, List.getElem_range]
      rw [ht]
      have : (i ∈ List.take k out ++ [out[k]]) ↔ i ∈ List.take k out := by
        simp only [List.mem_append, List.mem_singleton]
        constructor
        · rintro (h | h)
          · exact h
          · exact absurd h.symm e
        · exact .inl
      simp only [this]
theorem IsTopo.all {m : MachL} {out : List Nat} (h : IsTopo m out) (q : Nat) (hq : q < m.states.length) : q ∈ out := by
  apply Classical.byContradiction
  intro hn
  have h1 : (q :: out).Nodup := List.nodup_cons.2 ⟨hn, h.nd⟩
  have h2 := nodup_full m.states.length (q :: out) h1 (fun x hx => by
    rcases List.mem_cons.1 hx with rfl | hx
    · exact hq
    · exact h.lt x hx)
  have := h.len
  simp at h2
  omega
theorem IsTopo.idx {m : MachL} {out : List Nat} (h : IsTopo m out) {p q : Nat} (hq : q < m.states.length) (ht : q ∈ tos m p) : out.idxOf p < out.idxOf q := by
  obtain ⟨pre, post, e⟩ := List.append_of_mem (h.all q hq)
  obtain ⟨hp, -⟩ := mem_tos ht
  have hpre := h.ord pre q post e p hp ht
  have hnd := h.nd
  rw [e] at hnd ⊢
  have hqn : q ∉ pre := fun hx => (List.nodup_append.1 hnd).2.2 q hx q (by simp) rfl
  have h1 : (pre ++ q :: post).idxOf q = pre.length := by
    rw [List.idxOf_append, if_neg hqn]
    simp
  have h2 : (pre ++ q :: post).idxOf p = pre.idxOf p := by rw [List.idxOf_append, if_pos hpre]
  rw [h1, h2]
  exact List.idxOf_lt_length_of_mem hpre
theorem IsTopo.pos {m : MachL} {out : List Nat} (h : IsTopo m out) (q : Nat) (hq : q < m.states.length) : (posA m.states.length out m.states.length).getD q 0 = (out.idxOf q : Int) + 1 ∧ out.idxOf q < m.states.length := by
  have hl := List.idxOf_lt_length_of_mem (h.all q hq)
  rw [h.len] at hl
  refine ⟨?_, hl⟩
  unfold posA
  rw [List.getD_eq_getElem?_getD, List.getElem?_eq_getElem (by simpa using hq)]
  simp only [List.getElem_map, List.getElem_range, Option.getD_some]
  rw [List.take_of_length_le (by rw [h.len]; exact Nat.le_refl _), if_pos (h.all q hq)]
end Go.Proofs.Ytndajklppipckaa
