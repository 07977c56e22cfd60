/- Distances of machines of raw numbers: plain laws; both. -/
import Derived.Test.YtikkmoleneioeaaFrom
import Derived.Test.YtikkmoleneioeaaEnds
import Derived.Test.YtikkmoleneioeaaValid
namespace Go.Proofs.Ytikkmoleneioeaa
open Go.RowKit

/-- weights are small -/
def Small (m : MachL) : Prop := ∀ s ∈ m.states, (s.final = 1000000001 ∨ s.final ≤ 1000000) ∧ ∀ a ∈ s.arcs, a.wt ≤ 1000000
theorem small_made (r : RawL) (k : Int) (full : Bool) : Small (mkMach r k full) := by
  intro s hs
  unfold mkMach mkStates at hs
  obtain ⟨i, -, rfl⟩ := List.mem_map.1 hs
  cases h : r.nodes[i]? with
  | none => simp [mkState]
  | some x =>
    simp only [mkState]
    refine ⟨?_, fun a ha => ?_⟩
    · unfold mkFinal; split
      · have := pick_hi x.final 10 (by omega); omega
      · exact .inl rfl
    · unfold mkArcs at ha
      obtain ⟨e, -, rfl⟩ := List.mem_map.1 ha
      have := pick_hi e.wt 10 (by omega)
      simp only [mkArc]; omega

theorem from_small' {m : MachL} (hv : Valid m) (hs : Small m) : ∀ q c, Way (fromFirst m) (fromE m) q c → ∃ c', Way (fromFirst m) (fromE m) q c' ∧ c' ≤ 100000000 := by
  intro q c h
  have hn := hv.size
  obtain ⟨c', hc, hl⟩ := way_small (F := 0) (W := 1000000) (From_ok hv) (fun x hx => by
    unfold fromFirst at hx
    split at hx
    · rcases List.mem_or_eq_of_mem_set hx with h | h
      · obtain ⟨s, -, rfl⟩ := List.mem_map.1 h; exact .inl rfl
      · right; omega
    · obtain ⟨s, -, rfl⟩ := List.mem_map.1 hx; exact .inl rfl) (fun l hl e he => by
    obtain ⟨q, hq, rfl⟩ := List.getElem_of_mem hl
    have hg : (fromE m).getD q [] = (fromE m)[q] := by simp [List.getD_eq_getElem?_getD, hq]
    rw [← hg] at he
    obtain ⟨p, hp, a, ha, e⟩ := (From_mem hv q _).1 he
    unfold fF at e
    injection e with _ e
    subst e
    exact (hs _ (List.getElem_mem hp)).2 a ha) (by omega) h
  exact ⟨c', hc, by omega⟩
theorem from_small {m : MachL} (hv : Valid m) (hs : Small m) : ∀ q c, Way (fromFirst m) (fromE m) q c → ∃ c', Way (fromFirst m) (fromE m) q c' ∧ c' ≤ 1000000000 := fun q c h => by
  obtain ⟨c', h1, h2⟩ := from_small' hv hs q c h
  exact ⟨c', h1, by omega⟩
theorem ends_small' {m : MachL} (hv : Valid m) (hs : Small m) : ∀ q c, Way (endsFirst m) (endsE m) q c → ∃ c', Way (endsFirst m) (endsE m) q c' ∧ c' ≤ 100000000 := by
  intro q c h
  have hn := hv.size
  obtain ⟨c', hc, hl⟩ := way_small (F := 1000000) (W := 1000000) (Ends_ok hv) (fun x hx => by
    obtain ⟨s, hss, rfl⟩ := List.mem_map.1 hx
    exact (hs s hss).1) (fun l hl e he => by
    obtain ⟨q, hq, rfl⟩ := List.getElem_of_mem hl
    have hg : (endsE m).getD q [] = (endsE m)[q] := by simp [List.getD_eq_getElem?_getD, hq]
    rw [← hg] at he
    obtain ⟨p, hp, a, ha, e⟩ := (Ends_mem hv q _).1 he
    unfold fE at e
    injection e with _ e
    subst e
    exact (hs _ (List.getElem_mem hp)).2 a ha) (by omega) h
  exact ⟨c', hc, by omega⟩
theorem ends_small {m : MachL} (hv : Valid m) (hs : Small m) : ∀ q c, Way (endsFirst m) (endsE m) q c → ∃ c', Way (endsFirst m) (endsE m) q c' ∧ c' ≤ 1000000000 := fun q c h => by
  obtain ⟨c', h1, h2⟩ := ends_small' hv hs q c h
  exact ⟨c', h1, by omega⟩

/-- distances are small -/
theorem dist_small {first : List Int} {E : Edges} (hs : ∀ q c, Way first E q c → ∃ c', Way first E q c' ∧ c' ≤ 100000000) {q : Nat} {d : Int} (h : IsDist first E q d) : (d = 1000000001 ∧ ∀ c, ¬ Way first E q c) ∨ (0 ≤ d ∧ d ≤ 100000000 ∧ Way first E q d ∧ ∀ c, Way first E q c → d ≤ c) := by
  rcases h with h | ⟨h1, h2, h3, h4⟩
  · exact .inl h
  · obtain ⟨c', hc, hl⟩ := hs _ _ h3
    exact .inr ⟨h1, by have := h4 _ hc; omega, h3, h4⟩

/-- ways from the start, in terms of arcs -/
theorem from_step {m : MachL} (hv : Valid m) {q : Nat} {c : Int} (h : Way (fromFirst m) (fromE m) q c) {hq : q < m.states.length} {a : ArcL} (ha : a ∈ m.states[q].arcs) : Way (fromFirst m) (fromE m) a.to.toNat (c + a.wt) :=
  .step h ((From_mem hv q _).2 ⟨q, hq, a, ha, rfl⟩)
theorem from_start {m : MachL} (hv : Valid m) (h0 : 0 ≤ m.start) : Way (fromFirst m) (fromE m) m.start.toNat 0 := by
  have h1 := hv.s1
  have hl : m.start.toNat < (fromFirst m).length := by rw [(From_ok hv).fl]; omega
  have e : (fromFirst m)[m.start.toNat] = 0 := by simp [fromFirst, h0]
  have := Way.start (first := fromFirst m) (E := fromE m) hl (by rw [e]; omega)
  rwa [e] at this
theorem from_first {m : MachL} {q : Nat} (hq : q < (fromFirst m).length) (hw : (fromFirst m)[q] ≠ 1000000001) : 0 ≤ m.start ∧ q = m.start.toNat ∧ (fromFirst m)[q] = 0 := by
  by_cases h0 : 0 ≤ m.start
  · have e0 : fromFirst m = (m.states.map gF).set m.start.toNat 0 := by unfold fromFirst; rw [if_pos h0]
    simp only [e0] at hw ⊢
    by_cases e : m.start.toNat = q
    · subst e; simp [h0]
    · rw [List.getElem_set_ne e] at hw; simp [gF] at hw
  · have e0 : fromFirst m = m.states.map gF := by unfold fromFirst; rw [if_neg h0]
    simp only [e0] at hw
    simp [gF] at hw
/-- how a way from the start ends -/
theorem from_inv {m : MachL} (hv : Valid m) {q : Nat} {c : Int} (h : Way (fromFirst m) (fromE m) q c) : (0 ≤ m.start ∧ q = m.start.toNat ∧ c = 0) ∨ ∃ p c', Way (fromFirst m) (fromE m) p c' ∧ ∃ hp : p < m.states.length, ∃ a ∈ m.states[p].arcs, a.to.toNat = q ∧ c = c' + a.wt := by
  cases h with
  | start hq hw => exact .inl (from_first hq hw)
  | @step p _ c' w h he =>
    right
    obtain ⟨p', hp, a, ha, e⟩ := (From_mem hv p _).1 he
    unfold fF at e
    injection e with e1 e2
    injection e2 with e2 e3
    subst e1; subst e2; subst e3
    exact ⟨p', c', h, hp, a, ha, rfl, rfl⟩
/-- a way to an end, in terms of arcs -/
theorem ends_step {m : MachL} (hv : Valid m) {p : Nat} {c : Int} {hp : p < m.states.length} {a : ArcL} (ha : a ∈ m.states[p].arcs) (h : Way (endsFirst m) (endsE m) a.to.toNat c) : Way (endsFirst m) (endsE m) p (c + a.wt) :=
  .step h ((Ends_mem hv _ _).2 ⟨p, hp, a, ha, rfl⟩)
theorem ends_start {m : MachL} {q : Nat} (hq : q < m.states.length) (hf : m.states[q].final ≠ 1000000001) : Way (endsFirst m) (endsE m) q m.states[q].final := by
  have := Way.start (first := endsFirst m) (E := endsE m) (q := q) (by simpa [endsFirst] using hq) (by simpa [endsFirst, gE] using hf)
  simpa [endsFirst, gE] using this
theorem ends_inv {m : MachL} (hv : Valid m) {q : Nat} {c : Int} (h : Way (endsFirst m) (endsE m) q c) : (∃ hq : q < m.states.length, m.states[q].final ≠ 1000000001 ∧ c = m.states[q].final) ∨ ∃ c', ∃ hq : q < m.states.length, ∃ a ∈ m.states[q].arcs, Way (endsFirst m) (endsE m) a.to.toNat c' ∧ c = c' + a.wt := by
  cases h with
  | start hq hw =>
    left
    have hq' : q < m.states.length := by simpa [endsFirst] using hq
    exact ⟨hq', by simpa [endsFirst, gE] using hw, by simp [endsFirst, gE]⟩
  | @step p _ c' w h he =>
    right
    obtain ⟨p', hp, a, ha, e⟩ := (Ends_mem hv p _).1 he
    unfold fE at e
    injection e with e1 e2
    injection e2 with e2 e3
    subst e1; subst e2; subst e3
    exact ⟨c', hp, a, ha, h, rfl⟩

/-- a way from the start and one to an end make a path -/
theorem way_join {m : MachL} (hv : Valid m) {q : Nat} {c1 : Int} (h : Way (fromFirst m) (fromE m) q c1) : ∀ c, Way (endsFirst m) (endsE m) q c → Way (endsFirst m) (endsE m) m.start.toNat (c1 + c) := by
  induction h with
  | start hq hw =>
    intro c hc
    obtain ⟨_, e, e0⟩ := from_first hq hw
    rw [e0]
    subst e
    simpa using hc
  | @step p q c1 w h he ih =>
    intro c hc
    obtain ⟨p', hp, a, ha, e⟩ := (From_mem hv p _).1 he
    unfold fF at e
    injection e with e1 e2
    injection e2 with e2 e3
    subst e1; subst e2; subst e3
    have := ih (c + a.wt) (ends_step hv ha hc)
    rw [show c1 + a.wt + c = c1 + (c + a.wt) by omega]
    exact this
/-- a path ends in a state -/
theorem way_split {m : MachL} (hv : Valid m) {p : Nat} {c : Int} (h : Way (endsFirst m) (endsE m) p c) : ∀ c1, Way (fromFirst m) (fromE m) p c1 → ∃ r c2, Way (fromFirst m) (fromE m) r c2 ∧ ∃ hr : r < m.states.length, m.states[r].final ≠ 1000000001 ∧ c1 + c = c2 + m.states[r].final := by
  induction h with
  | @start q hq hw =>
    intro c1 h1
    have hq' : q < m.states.length := by simpa [endsFirst] using hq
    exact ⟨q, c1, h1, hq', by simpa [endsFirst, gE] using hw, by simp [endsFirst, gE]⟩
  | @step p q c w h he ih =>
    intro c1 h1
    obtain ⟨p', hp, a, ha, e⟩ := (Ends_mem hv p _).1 he
    unfold fE at e
    injection e with e1 e2
    injection e2 with e2 e3
    subst e1; subst e2; subst e3
    obtain ⟨r, c2, h2, hr, hf, e⟩ := ih (c1 + a.wt) (from_step hv h1 ha)
    exact ⟨r, c2, h2, hr, hf, by omega⟩

def bothD (a b : Int) : Int := if a = 1000000001 ∨ b = 1000000001 then 1000000001 else a + b
end Go.Proofs.Ytikkmoleneioeaa
