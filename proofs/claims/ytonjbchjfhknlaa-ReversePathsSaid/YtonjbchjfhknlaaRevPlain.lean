/- The reversed machine (plain): its arcs. -/
import Derived.Test.YtonjbchjfhknlaaRev3
namespace Go.Proofs.Ytonjbchjfhknlaa

theorem rev_len (m : MachL) : (revM m).states.length = m.states.length + 1 := by
  unfold revM; simp only; split <;> simp [addSs_len]
theorem addSs_arcs_at {m : MachL} (hv : Valid m) (x : Nat) (hx : x < m.states.length + 1) : (addSs (List.replicate (m.states.length + 1) emptyS) (revTo m.states m.states.length))[x]? = some ⟨1000000001, ((revTo m.states m.states.length).filter (fun y => y.1 = x)).map (·.2)⟩ := by
  have hl : x < (addSs (List.replicate (m.states.length + 1) emptyS) (revTo m.states m.states.length)).length := by rw [addSs_len]; simpa using hx
  rw [List.getElem?_eq_getElem hl, addSs_get _ _ (by simpa using revTo_lt hv) x (by simpa using hx)]
  simp
theorem rev_arcs {m : MachL} (hv : Valid m) (x : Nat) (hx : x < (revM m).states.length) : (revM m).states[x].arcs = ((revTo m.states m.states.length).filter (fun y => y.1 = x)).map (·.2) := by
  have hx' : x < m.states.length + 1 := by rw [← rev_len]; exact hx
  have key : (revM m).states[x]?.map (·.arcs) = some (((revTo m.states m.states.length).filter (fun y => y.1 = x)).map (·.2)) := by
    unfold revM
    simp only
    split
    · rename_i h0
      have hs1 := hv.s1
      by_cases e : m.start.toNat + 1 = x
      · subst e
        rw [List.getElem?_set_self (by rw [addSs_len]; simp; omega), addSs_arcs_at hv _ hx']; rfl
      · rw [List.getElem?_set_ne e, addSs_arcs_at hv _ hx']; rfl
    · rw [addSs_arcs_at hv _ hx']; rfl
  rw [List.getElem?_eq_getElem hx] at key
  simpa using key
theorem rev_mem {m : MachL} (hv : Valid m) (x : Nat) (hx : x < (revM m).states.length) (a : ArcL) : a ∈ (revM m).states[x].arcs ↔ (x, a) ∈ revTo m.states m.states.length := by
  rw [rev_arcs hv x hx, List.mem_map]
  constructor
  · rintro ⟨⟨y, b⟩, hy, rfl⟩
    obtain ⟨h1, h2⟩ := List.mem_filter.1 hy
    simp only [decide_eq_true_eq] at h2
    subst h2; exact h1
  · intro h
    exact ⟨(x, a), List.mem_filter.2 ⟨h, by simp⟩, rfl⟩
theorem rev_final {m : MachL} (hv : Valid m) : ∀ s ∈ (revM m).states, s.final = 0 ∨ s.final = 1000000001 := by
  intro s hs
  have key : ∀ s ∈ addSs (List.replicate (m.states.length + 1) emptyS) (revTo m.states m.states.length), s.final = 1000000001 := by
    intro s hs
    obtain ⟨i, hi, rfl⟩ := List.getElem_of_mem hs
    rw [addSs_len, List.length_replicate] at hi
    rw [addSs_get _ _ (by simpa using revTo_lt hv) i (by simpa using hi)]
    simp
  unfold revM at hs
  simp only at hs
  split at hs
  · rcases List.mem_or_eq_of_mem_set hs with h | h
    · exact .inr (key s h)
    · subst h; exact .inl rfl
  · exact .inr (key s hs)
theorem rev_final_at {m : MachL} (hv : Valid m) (x : Nat) (hx : x < m.states.length + 1) : ((revM m).states[x]?).map (·.final) = some (if 0 ≤ m.start ∧ m.start.toNat + 1 = x then 0 else 1000000001) := by
  unfold revM
  simp only
  split
  · rename_i h0
    have hs1 := hv.s1
    by_cases e : m.start.toNat + 1 = x
    · subst e
      rw [List.getElem?_set_self (by rw [addSs_len]; simp; omega), if_pos ⟨h0, rfl⟩]; rfl
    · rw [List.getElem?_set_ne e, addSs_arcs_at hv _ hx, if_neg (fun h => e h.2)]; rfl
  · rename_i h0
    rw [addSs_arcs_at hv _ hx, if_neg (fun h => h0 h.1)]; rfl
end Go.Proofs.Ytonjbchjfhknlaa
