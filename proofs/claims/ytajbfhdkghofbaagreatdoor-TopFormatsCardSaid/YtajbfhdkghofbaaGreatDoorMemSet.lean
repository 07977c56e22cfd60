/- A state of a machine of the call's own gets other arcs. -/
import Derived.Test.YtajbfhdkghofbaaGreatDoorMem
namespace Go.Proofs.YtajbfhdkghofbaaGreatDoor
open Go.RowKit

theorem statesCells_set1 (l : List (Int × Value)) (q : Nat) (hq : q < l.length) (u : Value) : (statesCells l).set (q * 2 + 1) u = statesCells (l.set q (l[q].1, u)) := by
  induction l generalizing q with
  | nil => simp at hq
  | cons p l ih =>
    cases q with
    | zero => simp [statesCells, stCells]
    | succ q =>
      have e : (q + 1) * 2 + 1 = (q * 2 + 1) + 1 + 1 := by omega
      have := ih q (by simpa using hq)
      simp only [statesCells, List.flatMap_cons, stCells, List.cons_append, List.nil_append, List.set_cons_succ, List.getElem_cons_succ, e] at this ⊢
      rw [this]
theorem statesCells_set0 (l : List (Int × Value)) (q : Nat) (hq : q < l.length) (n : Int) : (statesCells l).set (q * 2) (.int .i64 n) = statesCells (l.set q (n, l[q].2)) := by
  induction l generalizing q with
  | nil => simp at hq
  | cons p l ih =>
    cases q with
    | zero => simp [statesCells, stCells]
    | succ q =>
      have e : (q + 1) * 2 = (q * 2) + 1 + 1 := by omega
      have := ih q (by simpa using hq)
      simp only [statesCells, List.flatMap_cons, stCells, List.cons_append, List.nil_append, List.set_cons_succ, List.getElem_cons_succ, e] at this ⊢
      rw [this]
theorem zip_set_snd {α β : Type} (l : List α) (m : List β) (q : Nat) (h : q < (l.zip m).length) (u : β) : (l.zip m).set q ((l.zip m)[q].1, u) = l.zip (m.set q u) := by
  induction l generalizing m q with
  | nil => simp at h
  | cons a l ih =>
    cases m with
    | nil => simp at h
    | cons b m =>
      cases q with
      | zero => simp
      | succ q =>
        simp only [List.zip_cons_cons, List.set_cons_succ, List.getElem_cons_succ]
        rw [ih m q (by simpa using h)]
theorem zip_set_fst {α β : Type} (l : List α) (m : List β) (q : Nat) (h : q < (l.zip m).length) (u : α) : (l.zip m).set q (u, (l.zip m)[q].2) = (l.set q u).zip m := by
  induction l generalizing m q with
  | nil => simp at h
  | cons a l ih =>
    cases m with
    | nil => simp at h
    | cons b m =>
      cases q with
      | zero => simp
      | succ q =>
        simp only [List.zip_cons_cons, List.set_cons_succ, List.getElem_cons_succ]
        rw [ih m q (by simpa using h)]
theorem final_set (ss : List StateL) (q : Nat) (hq : q < ss.length) (l : List ArcL) : (ss.set q ⟨ss[q].final, l⟩).map (·.final) = ss.map (·.final) := by
  rw [List.map_set]
  apply List.ext_getElem
  · simp
  · intro i h1 h2
    by_cases e : q = i
    · subst e; simp
    · simp [List.getElem_set_ne e]

theorem OwnStV.setArcs {w : World} {B g n c : Nat} {vs : List Value} {ss : List StateL} (h : OwnStV w B (.slice (some ⟨g, 0, none⟩) n c) vs ss) (q : Nat) (hq : q < ss.length) {av : Value} {l : List ArcL} (ha : OwnArcs w B av l) :
    OwnStV (w.setCell ⟨g, q * 2 + 1, none⟩ av) B (.slice (some ⟨g, 0, none⟩) n c) (vs.set q av) (ss.set q ⟨ss[q].final, l⟩) := by
  have hz : q < ((ss.map (·.final)).zip vs).length := by simp [h.len]; exact hq
  obtain ⟨A', c', hv, -, -⟩ := own_form h.row
  obtain rfl : n = ss.length := by simp at hv; exact hv.2.1
  have hr := (h.row.stored (q * 2 + 1) av).1
  have ne : ∀ {v : Value} {l : List ArcL}, OwnArcs w B v l → v.ownBlock ≠ some g := fun {v l} k => by
    rcases own_ne k h.row (by decide) with e | e
    · rw [e]; simp
    · simpa [Value.ownBlock] using e
  refine ⟨by simp [h.len], ?_, fun i hi hi' => ?_⟩
  · rw [statesCells_set1 _ _ hz, zip_set_snd] at hr
    rw [final_set _ _ hq, List.length_set]
    exact hr
  · by_cases e : q = i
    · subst e
      simp only [List.getElem_set_self]
      exact ha.setCell (ne ha) _
    · rw [List.getElem_set_ne e]
      rw [List.getElem_set_ne e]
      have k := h.arcs i (by simpa using hi) (by simpa using hi')
      exact k.setCell (ne k) _
theorem OwnStV.setFinal {w : World} {B g n c : Nat} {vs : List Value} {ss : List StateL} (h : OwnStV w B (.slice (some ⟨g, 0, none⟩) n c) vs ss) (q : Nat) (hq : q < ss.length) (f : Int) :
    OwnStV (w.setCell ⟨g, q * 2, none⟩ (.int .i64 f)) B (.slice (some ⟨g, 0, none⟩) n c) vs (ss.set q ⟨f, ss[q].arcs⟩) := by
  have hz : q < ((ss.map (·.final)).zip vs).length := by simp [h.len]; exact hq
  obtain ⟨A', c', hv, -, -⟩ := own_form h.row
  obtain rfl : n = ss.length := by simp at hv; exact hv.2.1
  have hr := (h.row.stored (q * 2) (.int .i64 f)).1
  have ne : ∀ {v : Value} {l : List ArcL}, OwnArcs w B v l → v.ownBlock ≠ some g := fun {v l} k => by
    rcases own_ne k h.row (by decide) with e | e
    · rw [e]; simp
    · simpa [Value.ownBlock] using e
  refine ⟨by simp [h.len], ?_, fun i hi hi' => ?_⟩
  · rw [statesCells_set0 _ _ hz, zip_set_fst] at hr
    rw [List.length_set, List.map_set]
    exact hr
  · have k := h.arcs i (by simpa using hi) (by simpa using hi')
    by_cases e : q = i
    · subst e
      simp only [List.getElem_set_self]
      exact k.setCell (ne k) _
    · rw [List.getElem_set_ne e]
      exact k.setCell (ne k) _
/-- where a row of states of the call's own lies -/
theorem OwnStV.addr {w : World} {B : Nat} {v : Value} {vs : List Value} {ss : List StateL} (h : OwnStV w B v vs ss) (h0 : 0 < ss.length) : ∃ g c, v = .slice (some ⟨g, 0, none⟩) ss.length c ∧ B ≤ g ∧ g < w.heap.size ∧ c ≤ maxLen := by
  rcases h.row.2 with ⟨_, e⟩ | ⟨g, cap, cur, rfl, hb, hg, _, hm, _⟩
  · omega
  · exact ⟨g, cap, rfl, hb, (Array.getElem?_eq_some_iff.1 hg).1, hm⟩
end Go.Proofs.YtajbfhdkghofbaaGreatDoor
