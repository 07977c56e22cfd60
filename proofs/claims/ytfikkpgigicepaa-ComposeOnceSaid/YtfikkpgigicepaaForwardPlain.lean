/- A machine whose arcs lead forward (plain). -/
/- What OrderForward asks, plain. -/
import Derived.Test.YtfikkpgigicepaaValid
import Derived.Test.YtfikkpgigicepaaOrderPlain
namespace Go.Proofs.Ytfikkpgigicepaa
open Go.RowKit

def fwdA (n q : Nat) (a : ArcL) : ArcL := ⟨a.inn, a.out, a.wt, (q : Int) + 1 + a.to % ((n : Int) - 1 - q)⟩
def fwdArcs (n q : Nat) (l : List ArcL) : List ArcL := if q + 1 < n then l.map (fwdA n q) else []
def fwdS (n q : Nat) (s : StateL) : StateL := ⟨s.final, fwdArcs n q s.arcs⟩
def fwdPart (ss : List StateL) (k : Nat) : List StateL := ss.mapIdx fun q s => if q < k then fwdS ss.length q s else s
def fwdM (m : MachL) : MachL := ⟨0, m.states.mapIdx (fwdS m.states.length)⟩

theorem fwdPart_len (ss : List StateL) (k : Nat) : (fwdPart ss k).length = ss.length := by simp [fwdPart]
theorem fwdPart_zero (ss : List StateL) : fwdPart ss 0 = ss := by
  unfold fwdPart
  apply List.ext_getElem
  · simp
  · intro i h1 h2; simp
theorem fwdPart_full (m : MachL) : (⟨0, fwdPart m.states m.states.length⟩ : MachL) = fwdM m := by
  unfold fwdPart fwdM
  congr 1
  apply List.ext_getElem
  · simp
  · intro i h1 h2
    simp at h2
    simp [h2]
theorem fwdPart_get (ss : List StateL) (k : Nat) (hk : k < ss.length) : (fwdPart ss k)[k]'(by rw [fwdPart_len]; exact hk) = ss[k] := by simp [fwdPart]
theorem fwdPart_set (ss : List StateL) (k : Nat) (hk : k < ss.length) : (fwdPart ss k).set k ⟨ss[k].final, fwdArcs ss.length k ss[k].arcs⟩ = fwdPart ss (k + 1) := by
  unfold fwdPart
  apply List.ext_getElem
  · simp
  · intro i h1 h2
    simp at h1
    by_cases e : k = i
    · subst e; simp [fwdS]
    · rw [List.getElem_set_ne e]
      simp only [List.getElem_mapIdx]
      by_cases e2 : i < k
      · rw [if_pos e2, if_pos (by omega)]
      · rw [if_neg e2, if_neg (by omega)]

theorem fwd_to {n q : Nat} (hq : q + 1 < n) {a : ArcL} : (q : Int) < (fwdA n q a).to ∧ (fwdA n q a).to < n := by
  unfold fwdA
  simp only
  have h1 := Int.emod_nonneg a.to (b := (n : Int) - 1 - q) (by omega)
  have h2 := Int.emod_lt_of_pos a.to (b := (n : Int) - 1 - q) (by omega)
  omega

/-- each arc leads forward -/
def Fwd (m : MachL) : Prop := ∀ q (h : q < m.states.length), ∀ a ∈ m.states[q].arcs, (q : Int) < a.to

theorem fwdM_len (m : MachL) : (fwdM m).states.length = m.states.length := by simp [fwdM]
theorem fwdM_fwd (m : MachL) : Fwd (fwdM m) := by
  intro q hq a ha
  simp only [fwdM, List.getElem_mapIdx, fwdS, fwdArcs] at ha
  simp [fwdM] at hq
  split at ha
  · rename_i h
    obtain ⟨b, hb, rfl⟩ := List.mem_map.1 ha
    exact fwd_to h |>.1
  · simp at ha
theorem fwdS_len (n q : Nat) (s : StateL) : (fwdS n q s).arcs.length ≤ s.arcs.length := by
  unfold fwdS fwdArcs
  simp only
  split <;> simp
theorem arcsOf_le2 (l l' : List StateL) (hl : l.length = l'.length) (h : ∀ i (h1 : i < l.length) (h2 : i < l'.length), l[i].arcs.length ≤ l'[i].arcs.length) : arcsOf l ≤ arcsOf l' := by
  unfold arcsOf
  induction l generalizing l' with
  | nil => simp
  | cons a l ih =>
    cases l' with
    | nil => simp at hl
    | cons b l' =>
      have h0 := h 0 (by simp) (by simp)
      have := ih l' (by simpa using hl) (fun i h1 h2 => by have := h (i + 1) (by simpa using h1) (by simpa using h2); simpa using this)
      simp only [List.map_cons, List.sum_cons]
      simp at h0
      omega
theorem fwdM_valid {m : MachL} (hv : Valid m) (h0 : 0 < m.states.length) : Valid (fwdM m) := by
  refine ⟨by rw [fwdM_len]; exact hv.size, ?_, by simp [fwdM], by rw [fwdM_len]; simp [fwdM]; exact h0, ?_⟩
  · refine Nat.le_trans (arcsOf_le2 _ _ (fwdM_len m) fun i h1 h2 => ?_) hv.arcs
    simp only [fwdM, List.getElem_mapIdx]
    exact fwdS_len _ _ _
  · intro s hs
    obtain ⟨q, hq, rfl⟩ := List.getElem_of_mem hs
    rw [fwdM_len] at hq
    rw [fwdM_len]
    have hb := hv.st _ (List.getElem_mem hq)
    simp only [fwdM, List.getElem_mapIdx, fwdS, fwdArcs]
    refine ⟨hb.1, fun a ha => ?_⟩
    split at ha
    · rename_i h
      obtain ⟨b, hbm, rfl⟩ := List.mem_map.1 ha
      have hx := hb.2 b hbm
      have hy := fwd_to h (a := b)
      exact ⟨hx.i0, hx.i1, hx.o0, hx.o1, hx.w0, hx.w1, by omega, hy.2⟩
    · simp at ha
end Go.Proofs.Ytfikkpgigicepaa

namespace Go.Proofs.Ytfikkpgigicepaa
open Go.RowKit

theorem mem_tos {m : MachL} {p q : Nat} (h : q ∈ tos m p) : ∃ (hp : p < m.states.length), ∃ a ∈ m.states[p].arcs, a.to.toNat = q := by
  unfold tos at h
  rcases Nat.lt_or_ge p m.states.length with hp | hp
  · rw [List.getElem?_eq_getElem hp] at h
    simp only [Option.map_some, Option.getD_some] at h
    obtain ⟨a, ha, e⟩ := List.mem_map.1 h
    exact ⟨hp, a, ha, e⟩
  · rw [List.getElem?_eq_none hp] at h
    simp at h
theorem fwd_tos {m : MachL} (hf : Fwd m) {p q : Nat} (h : q ∈ tos m p) : p < q := by
  obtain ⟨hp, a, ha, rfl⟩ := mem_tos h
  have := hf p hp a ha
  omega
theorem fwd_not_stuck {m : MachL} (hf : Fwd m) {S : Nat → Prop} (h : Stuck m S) : False := by
  obtain ⟨⟨q, hq⟩, hs⟩ := h
  have key : ∀ n q, q ≤ n → S q → False := by
    intro n
    induction n with
    | zero =>
      intro q hn hq
      obtain ⟨-, p, -, ht⟩ := hs q hq
      have := fwd_tos hf ht
      omega
    | succ n ih =>
      intro q hn hq
      obtain ⟨-, p, hp, ht⟩ := hs q hq
      have := fwd_tos hf ht
      exact ih p (by omega) hp
  exact key q q (Nat.le_refl _) hq

/-- where the first k of the order stand, from 1 on; 0: not among them -/
def posA (n : Nat) (out : List Nat) (k : Nat) : List Int := (List.range n).map fun q => if q ∈ out.take k then (out.idxOf q : Int) + 1 else 0
theorem posA_len (n : Nat) (out : List Nat) (k : Nat) : (posA n out k).length = n := by simp [posA]
theorem posA_zero (n : Nat) (out : List Nat) : posA n out 0 = List.replicate n 0 := by
  unfold posA
  apply List.ext_getElem
  · simp
  · intro i h1 h2; simp
theorem posA_at {n : Nat} {out : List Nat} (hd : out.Nodup) (k : Nat) (hk : k < out.length) (hn : out[k] < n) : (posA n out k).getD out[k] 0 = 0 := by
  unfold posA
  rw [List.getD_eq_getElem?_getD, List.getElem?_eq_getElem (by simpa using hn)]
  simp only [List.getElem_map, List.getElem_range, Option.getD_some]
  rw [if_neg]
  intro h
  obtain ⟨i, hi, e⟩ := List.getElem_of_mem h
  simp at hi
  rw [List.getElem_take] at e
  have h3 := List.Nodup.idxOf_getElem hd i (by omega)
  have h4 := List.Nodup.idxOf_getElem hd k hk
  rw [e] at h3
  omega
theorem posA_set {n : Nat} {out : List Nat} (hd : out.Nodup) (k : Nat) (hk : k < out.length) : (posA n out k).set out[k] ((k : Int) + 1) = posA n out (k + 1) := by
  unfold posA
  have hidx : out.idxOf out[k] = k := List.Nodup.idxOf_getElem hd k hk
  apply List.ext_getElem
  · simp
  · intro i h1 h2
    simp at h1
    have ht : out.take (k + 1) = out.take k ++ [out[k]] := List.take_succ_eq_append_getElem hk
    by_cases e : out[k] = i
    · subst e
      simp only [List.getElem_set_self, List.getElem_map, List.getElem_range]
      rw [if_pos (by rw [ht]; exact List.mem_append_right _ (by simp)), hidx]
    · rw [List.getElem_set_ne e]
      simp only [List.getElem_map, List.getElem_range]
      rw [ht]
      have : (i ∈ List.take k out ++ [out[k]]) ↔ i ∈ List.take k out := by
        simp only [List.mem_append, List.mem_singleton]
        constructor
        · rintro (h | h)
          · exact h
          · exact absurd h.symm e
        · exact .inl
      simp only [this]
theorem IsTopo.all {m : MachL} {out : List Nat} (h : IsTopo m out) (q : Nat) (hq : q < m.states.length) : q ∈ out := by
  apply Classical.byContradiction
  intro hn
  have h1 : (q :: out).Nodup := List.nodup_cons.2 ⟨hn, h.nd⟩
  have h2 := nodup_full m.states.length (q :: out) h1 (fun x hx => by
    rcases List.mem_cons.1 hx with rfl | hx
    · exact hq
    · exact h.lt x hx)
  have := h.len
  simp at h2
  omega
theorem IsTopo.idx {m : MachL} {out : List Nat} (h : IsTopo m out) {p q : Nat} (hq : q < m.states.length) (ht : q ∈ tos m p) : out.idxOf p < out.idxOf q := by
  obtain ⟨pre, post, e⟩ := List.append_of_mem (h.all q hq)
  obtain ⟨hp, -⟩ := mem_tos ht
  have hpre := h.ord pre q post e p hp ht
  have hnd := h.nd
  rw [e] at hnd ⊢
  have hqn : q ∉ pre := fun hx => (List.nodup_append.1 hnd).2.2 q hx q (by simp) rfl
  have h1 : (pre ++ q :: post).idxOf q = pre.length := by
    rw [List.idxOf_append, if_neg hqn]
    simp
  have h2 : (pre ++ q :: post).idxOf p = pre.idxOf p := by rw [List.idxOf_append, if_pos hpre]
  rw [h1, h2]
  exact List.idxOf_lt_length_of_mem hpre
theorem IsTopo.pos {m : MachL} {out : List Nat} (h : IsTopo m out) (q : Nat) (hq : q < m.states.length) : (posA m.states.length out m.states.length).getD q 0 = (out.idxOf q : Int) + 1 ∧ out.idxOf q < m.states.length := by
  have hl := List.idxOf_lt_length_of_mem (h.all q hq)
  rw [h.len] at hl
  refine ⟨?_, hl⟩
  unfold posA
  rw [List.getD_eq_getElem?_getD, List.getElem?_eq_getElem (by simpa using hq)]
  simp only [List.getElem_map, List.getElem_range, Option.getD_some]
  rw [List.take_of_length_le (by rw [h.len]; exact Nat.le_refl _), if_pos (h.all q hq)]
end Go.Proofs.Ytfikkpgigicepaa
