/- The reversed machine (plain): its arcs, and its ways. -/
import Derived.Test.YtkfhefefhnmljaaRev3
import Derived.Test.YtkfhefefhnmljaaDistLaw
namespace Go.Proofs.Ytkfhefefhnmljaa

theorem rev_len (m : MachL) : (revM m).states.length = m.states.length + 1 := by
  unfold revM; simp only; split <;> simp [addSs_len]
theorem addSs_arcs_at {m : MachL} (hv : Valid m) (x : Nat) (hx : x < m.states.length + 1) : (addSs (List.replicate (m.states.length + 1) emptyS) (revTo m.states m.states.length))[x]? = some ⟨1000000001, ((revTo m.states m.states.length).filter (fun y => y.1 = x)).map (·.2)⟩ := by
  have hl : x < (addSs (List.replicate (m.states.length + 1) emptyS) (revTo m.states m.states.length)).length := by rw [addSs_len]; simpa using hx
  rw [List.getElem?_eq_getElem hl, addSs_get _ _ (by simpa using revTo_lt hv) x (by simpa using hx)]
  simp
theorem rev_arcs {m : MachL} (hv : Valid m) (x : Nat) (hx : x < (revM m).states.length) : (revM m).states[x].arcs = ((revTo m.states m.states.length).filter (fun y => y.1 = x)).map (·.2) := by
  have hx' : x < m.states.length + 1 := by rw [← rev_len]; exact hx
  have key : (revM m).states[x]?.map (·.arcs) = some (((revTo m.states m.states.length).filter (fun y => y.1 = x)).map (·.2)) := by
    unfold revM
    simp only
    split
    · rename_i h0
      have hs1 := hv.s1
      by_cases e : m.start.toNat + 1 = x
      · subst e
        rw [List.getElem?_set_self (by rw [addSs_len]; simp; omega), addSs_arcs_at hv _ hx']; rfl
      · rw [List.getElem?_set_ne e, addSs_arcs_at hv _ hx']; rfl
    · rw [addSs_arcs_at hv _ hx']; rfl
  rw [List.getElem?_eq_getElem hx] at key
  simpa using key
theorem rev_mem {m : MachL} (hv : Valid m) (x : Nat) (hx : x < (revM m).states.length) (a : ArcL) : a ∈ (revM m).states[x].arcs ↔ (x, a) ∈ revTo m.states m.states.length := by
  rw [rev_arcs hv x hx, List.mem_map]
  constructor
  · rintro ⟨⟨y, b⟩, hy, rfl⟩
    obtain ⟨h1, h2⟩ := List.mem_filter.1 hy
    simp only [decide_eq_true_eq] at h2
    subst h2; exact h1
  · intro h
    exact ⟨(x, a), List.mem_filter.2 ⟨h, by simp⟩, rfl⟩
theorem rev_final {m : MachL} (hv : Valid m) : ∀ s ∈ (revM m).states, s.final = 0 ∨ s.final = 1000000001 := by
  intro s hs
  have key : ∀ s ∈ addSs (List.replicate (m.states.length + 1) emptyS) (revTo m.states m.states.length), s.final = 1000000001 := by
    intro s hs
    obtain ⟨i, hi, rfl⟩ := List.getElem_of_mem hs
    rw [addSs_len, List.length_replicate] at hi
    rw [addSs_get _ _ (by simpa using revTo_lt hv) i (by simpa using hi)]
    simp
  unfold revM at hs
  simp only at hs
  split at hs
  · rcases List.mem_or_eq_of_mem_set hs with h | h
    · exact .inr (key s h)
    · subst h; exact .inl rfl
  · exact .inr (key s hs)
theorem rev_small {m : MachL} (hv : Valid m) (hs : Small m) : Small (revM m) := by
  intro s hss
  refine ⟨by rcases rev_final hv s hss with h | h <;> omega, fun a ha => ?_⟩
  obtain ⟨x, hx, rfl⟩ := List.getElem_of_mem hss
  obtain ⟨q, hq, hl, h⟩ := (mem_revTo _ _ (Nat.le_refl _) _).1 ((rev_mem hv x hx a).1 ha)
  rcases h with ⟨hf, e⟩ | ⟨b, hb, e⟩
  · injection e with _ e; subst e
    have := (hs _ (List.getElem_mem hl)).1
    simp only; omega
  · injection e with _ e; subst e
    exact (hs _ (List.getElem_mem hl)).2 b hb

section
variable {m : MachL} (hv : Valid m) (hr : Valid (revM m))
include hv hr
theorem rev_way_to {q : Nat} {c : Int} (h : Way (endsFirst m) (endsE m) q c) : Way (fromFirst (revM m)) (fromE (revM m)) (q + 1) c := by
  have h0 : Way (fromFirst (revM m)) (fromE (revM m)) 0 0 := by
    have := from_start hr (by simp [revM])
    simpa [revM] using this
  have hlen := rev_len m
  induction h with
  | @start q hq hw =>
    have hq' : q < m.states.length := by simpa [endsFirst] using hq
    have hf : m.states[q].final ≠ 1000000001 := by simpa [endsFirst, gE] using hw
    have ha : (⟨0, 0, m.states[q].final, q + 1⟩ : ArcL) ∈ ((revM m).states[0]'(by omega)).arcs := (rev_mem hv 0 (by omega) _).2 ((mem_revTo _ _ (Nat.le_refl _) _).2 ⟨q, hq', hq', .inl ⟨hf, rfl⟩⟩)
    have := from_step hr h0 ha
    simp only [Int.zero_add] at this
    have e : ((q : Int) + 1).toNat = q + 1 := by omega
    rw [e] at this
    simpa [endsFirst, gE] using this
  | @step p q c w h he ih =>
    obtain ⟨p', hp, a, ha, e⟩ := (Ends_mem hv p _).1 he
    unfold fE at e
    injection e with e1 e2
    injection e2 with e2 e3
    subst e1; subst e2; subst e3
    have hto := (hv.st _ (List.getElem_mem hp)).2 a ha
    have h1 := hto.t0; have h2 := hto.t1
    have hx : a.to.toNat + 1 < (revM m).states.length := by omega
    have ha' : (⟨a.inn, a.out, a.wt, p' + 1⟩ : ArcL) ∈ ((revM m).states[a.to.toNat + 1]'hx).arcs := (rev_mem hv _ hx _).2 ((mem_revTo _ _ (Nat.le_refl _) _).2 ⟨p', hp, hp, .inr ⟨a, ha, rfl⟩⟩)
    have := from_step hr ih ha'
    have e : ((p' : Int) + 1).toNat = p' + 1 := by omega
    simp only [e] at this
    exact this
theorem rev_way_of {x : Nat} {c : Int} (h : Way (fromFirst (revM m)) (fromE (revM m)) x c) : (x = 0 ∧ c = 0) ∨ ∃ q, x = q + 1 ∧ Way (endsFirst m) (endsE m) q c := by
  induction h with
  | start hq hw =>
    obtain ⟨_, e, e0⟩ := from_first hq hw
    left
    exact ⟨by rw [e]; simp [revM], e0⟩
  | @step p q c w h he ih =>
    right
    obtain ⟨p', hp, a, ha, e⟩ := (From_mem hr p _).1 he
    unfold fF at e
    injection e with e1 e2
    injection e2 with e2 e3
    subst e1; subst e2; subst e3
    obtain ⟨r, hr1, hl, hh⟩ := (mem_revTo _ _ (Nat.le_refl _) _).1 ((rev_mem hv _ hp a).1 ha)
    rcases hh with ⟨hf, e⟩ | ⟨b, hb, e⟩
    · injection e with e1 e2
      subst e1; subst e2
      rcases ih with ⟨_, rfl⟩ | ⟨z, hz, _⟩
      · refine ⟨r, by simp only; omega, ?_⟩
        simpa using ends_start hl hf
      · omega
    · injection e with e1 e2
      subst e1; subst e2
      rcases ih with ⟨h0, _⟩ | ⟨z, hz, hw⟩
      · omega
      · refine ⟨r, by simp only; omega, ?_⟩
        obtain rfl : z = b.to.toNat := by omega
        have h5 := ends_step hv (a := b) hb hw
        exact h5
theorem rev_way (q : Nat) (c : Int) : Way (endsFirst m) (endsE m) q c ↔ Way (fromFirst (revM m)) (fromE (revM m)) (q + 1) c := by
  refine ⟨rev_way_to hv hr, fun h => ?_⟩
  rcases rev_way_of hv hr h with ⟨h0, _⟩ | ⟨z, hz, hw⟩
  · omega
  · obtain rfl : q = z := by omega
    exact hw
theorem rev_dist {q : Nat} {d d' : Int} (h : IsDist (endsFirst m) (endsE m) q d) (h' : IsDist (fromFirst (revM m)) (fromE (revM m)) (q + 1) d') : d' = d := by
  have hw := rev_way hv hr q
  rcases h with ⟨h1, h2⟩ | ⟨h1, h2, h3, h4⟩
  · rcases h' with ⟨k1, k2⟩ | ⟨k1, k2, k3, k4⟩
    · omega
    · exact absurd ((hw _).2 k3) (h2 _)
  · rcases h' with ⟨k1, k2⟩ | ⟨k1, k2, k3, k4⟩
    · exact absurd ((hw _).1 h3) (k2 _)
    · have := h4 _ ((hw _).2 k3); have := k4 _ ((hw _).1 h3); omega
end
end Go.Proofs.Ytkfhefefhnmljaa
