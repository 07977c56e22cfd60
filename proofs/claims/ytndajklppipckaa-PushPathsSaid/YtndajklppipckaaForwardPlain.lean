/- A machine whose arcs lead forward (plain). -/
import Derived.Test.YtndajklppipckaaValid
namespace Go.Proofs.Ytndajklppipckaa
open Go.RowKit

def fwdA (n q : Nat) (a : ArcL) : ArcL := ⟨a.inn, a.out, a.wt, (q : Int) + 1 + a.to % ((n : Int) - 1 - q)⟩
def fwdArcs (n q : Nat) (l : List ArcL) : List ArcL := if q + 1 < n then l.map (fwdA n q) else []
def fwdS (n q : Nat) (s : StateL) : StateL := ⟨s.final, fwdArcs n q s.arcs⟩
def fwdPart (ss : List StateL) (k : Nat) : List StateL := ss.mapIdx fun q s => if q < k then fwdS ss.length q s else s
def fwdM (m : MachL) : MachL := ⟨0, m.states.mapIdx (fwdS m.states.length)⟩

theorem fwdPart_len (ss : List StateL) (k : Nat) : (fwdPart ss k).length = ss.length := by simp [fwdPart]
theorem fwdPart_zero (ss : List StateL) : fwdPart ss 0 = ss := by
  unfold fwdPart
  apply List.ext_getElem
  · simp
  · intro i h1 h2; simp
theorem fwdPart_full (m : MachL) : (⟨0, fwdPart m.states m.states.length⟩ : MachL) = fwdM m := by
  unfold fwdPart fwdM
  congr 1
  apply List.ext_getElem
  · simp
  · intro i h1 h2
    simp at h2
    simp [h2]
theorem fwdPart_get (ss : List StateL) (k : Nat) (hk : k < ss.length) : (fwdPart ss k)[k]'(by rw [fwdPart_len]; exact hk) = ss[k] := by simp [fwdPart]
theorem fwdPart_set (ss : List StateL) (k : Nat) (hk : k < ss.length) : (fwdPart ss k).set k ⟨ss[k].final, fwdArcs ss.length k ss[k].arcs⟩ = fwdPart ss (k + 1) := by
  unfold fwdPart
  apply List.ext_getElem
  · simp
  · intro i h1 h2
    simp at h1
    by_cases e : k = i
    · subst e; simp [fwdS]
    · rw [List.getElem_set_ne e]
      simp only [List.getElem_mapIdx]
      by_cases e2 : i < k
      · rw [if_pos e2, if_pos (by omega)]
      · rw [if_neg e2, if_neg (by omega)]

theorem fwd_to {n q : Nat} (hq : q + 1 < n) {a : ArcL} : (q : Int) < (fwdA n q a).to ∧ (fwdA n q a).to < n := by
  unfold fwdA
  simp only
  have h1 := Int.emod_nonneg a.to (b := (n : Int) - 1 - q) (by omega)
  have h2 := Int.emod_lt_of_pos a.to (b := (n : Int) - 1 - q) (by omega)
  omega

/-- each arc leads forward -/
def Fwd (m : MachL) : Prop := ∀ q (h : q < m.states.length), ∀ a ∈ m.states[q].arcs, (q : Int) < a.to

theorem fwdM_len (m : MachL) : (fwdM m).states.length = m.states.length := by simp [fwdM]
theorem fwdM_fwd (m : MachL) : Fwd (fwdM m) := by
  intro q hq a ha
  simp only [fwdM, List.getElem_mapIdx, fwdS, fwdArcs] at ha
  simp [fwdM] at hq
  split at ha
  · rename_i h
    obtain ⟨b, hb, rfl⟩ := List.mem_map.1 ha
    exact fwd_to h |>.1
  · simp at ha
theorem fwdS_len (n q : Nat) (s : StateL) : (fwdS n q s).arcs.length ≤ s.arcs.length := by
  unfold fwdS fwdArcs
  simp only
  split <;> simp
theorem arcsOf_le2 (l l' : List StateL) (hl : l.length = l'.length) (h : ∀ i (h1 : i < l.length) (h2 : i < l'.length), l[i].arcs.length ≤ l'[i].arcs.length) : arcsOf l ≤ arcsOf l' := by
  unfold arcsOf
  induction l generalizing l' with
  | nil => simp
  | cons a l ih =>
    cases l' with
    | nil => simp at hl
    | cons b l' =>
      have h0 := h 0 (by simp) (by simp)
      have := ih l' (by simpa using hl) (fun i h1 h2 => by have := h (i + 1) (by simpa using h1) (by simpa using h2); simpa using this)
      simp only [List.map_cons, List.sum_cons]
      simp at h0
      omega
theorem fwdM_valid {m : MachL} (hv : Valid m) (h0 : 0 < m.states.length) : Valid (fwdM m) := by
  refine ⟨by rw [fwdM_len]; exact hv.size, ?_, by simp [fwdM], by rw [fwdM_len]; simp [fwdM]; exact h0, ?_⟩
  · refine Nat.le_trans (arcsOf_le2 _ _ (fwdM_len m) fun i h1 h2 => ?_) hv.arcs
    simp only [fwdM, List.getElem_mapIdx]
    exact fwdS_len _ _ _
  · intro s hs
    obtain ⟨q, hq, rfl⟩ := List.getElem_of_mem hs
    rw [fwdM_len] at hq
    rw [fwdM_len]
    have hb := hv.st _ (List.getElem_mem hq)
    simp only [fwdM, List.getElem_mapIdx, fwdS, fwdArcs]
    refine ⟨hb.1, fun a ha => ?_⟩
    split at ha
    · rename_i h
      obtain ⟨b, hbm, rfl⟩ := List.mem_map.1 ha
      have hx := hb.2 b hbm
      have hy := fwd_to h (a := b)
      exact ⟨hx.i0, hx.i1, hx.o0, hx.o1, hx.w0, hx.w1, by omega, hy.2⟩
    · simp at ha
end Go.Proofs.Ytndajklppipckaa
