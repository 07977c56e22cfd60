/- An arc of a machine of the call's own gets another weight. -/
import Derived.Test.YtndajklppipckaaMemSet
import Derived.Test.YtndajklppipckaaTrim
import Derived.Test.YtndajklppipckaaMBox
namespace Go.Proofs.Ytndajklppipckaa
open Go.RowKit

theorem arcsCells_set2 (l : List ArcL) (i : Nat) (hi : i < l.length) (x : Int) : (arcsCells l).set (i * 4 + 2) (.int .i64 x) = arcsCells (l.set i ⟨l[i].inn, l[i].out, x, l[i].to⟩) := by
  induction l generalizing i with
  | nil => simp at hi
  | cons p l ih =>
    cases i with
    | zero => simp [arcsCells, arcCells]
    | succ i =>
      have e : (i + 1) * 4 + 2 = (i * 4 + 2) + 1 + 1 + 1 + 1 := by omega
      have := ih i (by simpa using hi)
      simp only [arcsCells, List.flatMap_cons, arcCells, List.cons_append, List.nil_append, List.set_cons_succ, List.getElem_cons_succ, e] at this ⊢
      rw [this]
theorem own_blk_ne {w : World} {B b n sz : Nat} {e t : TypeId} {v : Value} {xs : List Value} {cs : Array Value} (hr : w.ownsRow B e sz v n xs) (hb : Blk w b cs t) (hne : t ≠ e) : v.ownBlock ≠ some b := by
  intro hv
  rcases hr.2 with ⟨rfl, _⟩ | ⟨g, cap, cur, rfl, _, hg, _⟩
  · simp [Value.ownBlock] at hv
  · simp [Value.ownBlock] at hv
    subst hv
    unfold Blk at hb
    rw [hb] at hg
    simp at hg
    exact hne hg.2
theorem OwnStV.setWt {w : World} {B g n c : Nat} {sv : Value} {vs : List Value} {ss : List StateL} (h : OwnStV w B sv vs ss) (ap : ApartAll vs) (q : Nat) (hq : q < ss.length) (hq' : q < vs.length) (hv : vs[q] = .slice (some ⟨g, 0, none⟩) n c) (i : Nat) (hi : i < ss[q].arcs.length) (x : Int) :
    OwnStV (w.setCell ⟨g, i * 4 + 2, none⟩ (.int .i64 x)) B sv vs (ss.set q ⟨ss[q].final, ss[q].arcs.set i ⟨ss[q].arcs[i].inn, ss[q].arcs[i].out, x, ss[q].arcs[i].to⟩⟩) := by
  have k := h.arcs q hq hq'
  rw [hv] at k
  obtain ⟨hn, -⟩ := OwnArcs.at_ k
  subst hn
  have hr := (World.ownsRow.stored k (i * 4 + 2) (.int .i64 x)).1
  rw [arcsCells_set2 _ _ hi] at hr
  refine ⟨by simp [h.len], ?_, fun j hj hj' => ?_⟩
  · rw [final_set _ _ hq, List.length_set]
    refine own_setCell h.row ?_ _
    intro e
    rcases own_ne k h.row (by decide) with e2 | e2
    · simp [Value.ownBlock] at e2
    · exact e2 (by rw [e]; rfl)
  · by_cases e : q = j
    · subst e
      simp only [List.getElem_set_self]
      rw [hv]
      unfold OwnArcs
      rw [List.length_set]
      exact hr
    · rw [List.getElem_set_ne e]
      have k' := h.arcs j (by simpa using hj) hj'
      refine k'.setCell ?_ _
      intro e3
      rcases ap j q hj' hq' (fun e9 => e e9.symm) with e2 | e2
      · rw [e3] at e2; cases e2
      · exact e2 (by rw [e3, hv]; rfl)
theorem OwnStV.cell1 {w : World} {B n c : Nat} {A : Option Addr} {vs : List Value} {ss : List StateL} (h : OwnStV w B (.slice A n c) vs ss) (i : Nat) (hi : i < ss.length) (hi' : i < vs.length) : w.cell? ⟨blk A, ofs A + i * 2 + 1, none⟩ = some vs[i] := by
  obtain ⟨hl, ho, ha⟩ := h
  have hn : n = ss.length := by
    obtain ⟨A', c', hv, -, -⟩ := own_form ho
    simp at hv; exact hv.2.1
  subst hn
  have r := Rd.of_own ho
  have hz : ((ss.map (·.final)).zip vs).length = ss.length := by simp [hl]
  have e := flatMap_at stCells 2 (fun _ => rfl) ((ss.map (·.final)).zip vs) i (by omega) 1 (by omega)
  simp only [List.getElem_zip, List.getElem_map] at e
  exact r.at' e
theorem OwnStV.froz {w : World} {B g n c : Nat} {vs : List Value} {ss : List StateL} (h : OwnStV w B (.slice (some ⟨g, 0, none⟩) n c) vs ss) (o : Nat) : w.frozen? ⟨g, o, none⟩ = false := by
  rcases h.row.2 with ⟨h2, _⟩ | ⟨g', cap', cur', h2, _, hg, _⟩
  · simp at h2
  · simp at h2
    obtain ⟨rfl, -, -⟩ := h2
    simp [World.frozen?, hg]
end Go.Proofs.Ytndajklppipckaa
