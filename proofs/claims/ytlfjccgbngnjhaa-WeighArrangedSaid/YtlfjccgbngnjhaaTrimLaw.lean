/- A trimmed machine (plain). -/
import Derived.Test.YtlfjccgbngnjhaaTrimPlain
import Derived.Test.YtlfjccgbngnjhaaValid
namespace Go.Proofs.Ytlfjccgbngnjhaa

def idx (K : List Bool) (q : Nat) : Nat := (K.take q).count true
theorem num_kept {K : List Bool} {q : Nat} (h : K.getD q false = true) : num K q = (idx K q : Int) := by unfold num idx; rw [if_pos h]
theorem num_lost {K : List Bool} {q : Nat} (h : ¬ K.getD q false = true) : num K q = -1 := by unfold num; rw [if_neg h]
theorem getD_lt {K : List Bool} {q : Nat} (h : K.getD q false = true) : q < K.length := by
  rcases Nat.lt_or_ge q K.length with h' | h'
  · exact h'
  · simp [List.getD_eq_getElem?_getD, List.getElem?_eq_none h'] at h

section
variable {K : List Bool} {ss : List StateL} (hl : K.length = ss.length)
include hl
theorem trim_pre (k : Nat) : ∀ d, k + d ≤ ss.length → ∃ r, trimStates K ss (k + d) = trimStates K ss k ++ r := by
  intro d
  induction d with
  | zero => intro _; exact ⟨[], by simp⟩
  | succ d ih =>
    intro hd
    obtain ⟨r, hr⟩ := ih (by omega)
    rw [← Nat.add_assoc, trimStates_snoc K ss hl (k + d) (by omega), hr]
    split
    · exact ⟨r ++ [trimState K ss[k + d]], by simp⟩
    · exact ⟨r, rfl⟩
theorem trim_at {q : Nat} (hq : K.getD q false = true) (h : q < ss.length) : (trimStates K ss ss.length)[idx K q]? = some (trimState K ss[q]) := by
  obtain ⟨r, hr⟩ := trim_pre hl (q + 1) (ss.length - (q + 1)) (by omega)
  rw [show q + 1 + (ss.length - (q + 1)) = ss.length by omega] at hr
  rw [hr, trimStates_snoc K ss hl q h, if_pos hq]
  have e := trimStates_len K ss hl q (by omega)
  rw [List.append_assoc, List.getElem?_append_right (by unfold idx; omega), e]
  simp [idx]
theorem trim_from (i : Nat) : ∀ k, k ≤ ss.length → i < (trimStates K ss k).length → ∃ q, q < k ∧ K.getD q false = true ∧ idx K q = i := by
  intro k
  induction k with
  | zero => intro _ h; simp [trimStates, keptUpto] at h
  | succ k ih =>
    intro hk h
    rw [trimStates_snoc K ss hl k (by omega)] at h
    by_cases hK : K.getD k false = true
    · rw [if_pos hK] at h
      by_cases hi : i < (trimStates K ss k).length
      · obtain ⟨q, h1, h2, h3⟩ := ih (by omega) hi
        exact ⟨q, by omega, h2, h3⟩
      · refine ⟨k, by omega, hK, ?_⟩
        have e := trimStates_len K ss hl k (by omega)
        simp at h
        unfold idx; omega
    · rw [if_neg hK] at h
      obtain ⟨q, h1, h2, h3⟩ := ih (by omega) h
      exact ⟨q, by omega, h2, h3⟩
theorem idx_lt {q : Nat} (hq : K.getD q false = true) (h : q < ss.length) : idx K q < (trimStates K ss ss.length).length := (List.getElem?_eq_some_iff.1 (trim_at hl hq h)).1
theorem trim_len_le : (trimStates K ss ss.length).length ≤ ss.length := by
  rw [trimStates_len K ss hl ss.length (Nat.le_refl _)]; exact count_le K _
theorem trim_arcs_le : ∀ k, k ≤ ss.length → arcsOf (trimStates K ss k) ≤ arcsOf (ss.take k) := by
  intro k
  induction k with
  | zero => intro _; simp [trimStates, keptUpto, arcsOf]
  | succ k ih =>
    intro hk
    have h1 := ih (by omega)
    rw [trimStates_snoc K ss hl k (by omega), arcsOf_take ss k (by omega)]
    split
    · have := trimArcs_len K ss[k].arcs
      unfold arcsOf at *
      rw [List.map_append, List.sum_append]
      simp only [List.map_cons, List.map_nil, List.sum_cons, List.sum_nil, trimState]
      omega
    · omega
end

theorem trim_arc {K : List Bool} {l : List ArcL} {a : ArcL} (h : a ∈ trimArcs K l) : ∃ b ∈ l, K.getD b.to.toNat false = true ∧ a = numArc K b := by
  unfold trimArcs at h
  obtain ⟨b, hb, rfl⟩ := List.mem_map.1 h
  obtain ⟨h1, h2⟩ := List.mem_filter.1 hb
  exact ⟨b, h1, h2, rfl⟩
theorem arc_trim {K : List Bool} {l : List ArcL} {b : ArcL} (h : b ∈ l) (hk : K.getD b.to.toNat false = true) : numArc K b ∈ trimArcs K l :=
  List.mem_map.2 ⟨b, List.mem_filter.2 ⟨h, hk⟩, rfl⟩

abbrev RA (m : MachL) := Reach (aheadOf m.states) (startOf m)
abbrev RB (m : MachL) := Reach (backOf m.states) (endsOf m.states)
theorem ahead_mem {ss : List StateL} {q p : Nat} : p ∈ aheadOf ss q ↔ ∃ h : q < ss.length, ∃ a ∈ ss[q].arcs, a.to.toNat = p := by
  unfold aheadOf
  rcases Nat.lt_or_ge q ss.length with h | h
  · simp [h]
  · rw [List.getElem?_eq_none h]; simp; intro h2; omega
/-- the arcs of the trimmed machine -/
theorem trim_ahead {m : MachL} {q p : Nat} (hq : (keepOf m).getD q false = true) (hp : (keepOf m).getD p false = true) (h : p ∈ aheadOf m.states q) : idx (keepOf m) p ∈ aheadOf (trimM m).states (idx (keepOf m) q) := by
  obtain ⟨hl, a, ha, rfl⟩ := ahead_mem.1 h
  have e := trim_at (keepOf_len m) hq hl
  obtain ⟨hlt, e2⟩ := List.getElem?_eq_some_iff.1 e
  refine ahead_mem.2 ⟨hlt, numArc (keepOf m) a, ?_, ?_⟩
  · show _ ∈ ((trimStates (keepOf m) m.states m.states.length)[idx (keepOf m) q]).arcs
    rw [e2]; exact arc_trim ha hp
  · show (num (keepOf m) a.to.toNat).toNat = _
    rw [num_kept hp]; simp
theorem start_trim {m : MachL} (h : 0 ≤ m.start) (hk : (keepOf m).getD m.start.toNat false = true) : startOf (trimM m) = [idx (keepOf m) m.start.toNat] := by
  have e : (trimM m).start = (idx (keepOf m) m.start.toNat : Int) := by
    show (if 0 ≤ m.start then num (keepOf m) m.start.toNat else -1) = _
    rw [if_pos h, num_kept hk]
  unfold startOf
  rw [e, if_pos (by omega)]; simp

section
variable {m : MachL} (hv : Valid m)
include hv
theorem to_lt : ∀ s ∈ m.states, ∀ a ∈ s.arcs, a.to.toNat < m.states.length := fun s hs a ha => by
  have h1 := ((hv.st s hs).2 a ha).t0; have h2 := ((hv.st s hs).2 a ha).t1; omega
theorem RA_lt {q : Nat} (h : RA m q) : q < m.states.length := by
  induction h with
  | start hq =>
    unfold startOf at hq
    split at hq
    · have := hv.s1; simp at hq; omega
    · simp at hq
  | step _ hp _ =>
    obtain ⟨h, a, ha, rfl⟩ := ahead_mem.1 hp
    exact to_lt hv _ (List.getElem_mem h) a ha
theorem RB_lt {q : Nat} (h : RB m q) : q < m.states.length := by
  induction h with
  | start hq => exact ((mem_endsOf _ _).1 hq).1
  | step _ hp _ => exact backOf_lt _ (to_lt hv) _ _ hp
theorem RB_pre {q p : Nat} (h : RB m q) (hp : q ∈ aheadOf m.states p) : RB m p := by
  obtain ⟨hl, a, ha, he⟩ := ahead_mem.1 hp
  exact .step h ((mem_backOf _ (to_lt hv) _ _).2 ⟨hl, a, ha, he⟩)
theorem keep_iff {q : Nat} : (keepOf m).getD q false = true ↔ RA m q ∧ RB m q := by
  constructor
  · intro h
    have := getD_lt h
    rw [keepOf_len] at this
    exact (keepOf_iff m q this).1 h
  · intro h; exact (keepOf_iff m q (RA_lt hv h.1)).2 h

theorem trim_to : ∀ s ∈ (trimM m).states, ∀ a ∈ s.arcs, 0 ≤ a.to ∧ a.to < (trimM m).states.length := by
  intro s hs a ha
  obtain ⟨i, hi, rfl⟩ := List.getElem_of_mem hs
  obtain ⟨q, h1, h2, h3⟩ := trim_from (keepOf_len m) i m.states.length (Nat.le_refl _) hi
  have e := trim_at (keepOf_len m) h2 h1
  rw [h3] at e
  obtain ⟨hlt, e2⟩ := List.getElem?_eq_some_iff.1 e
  have ha' : a ∈ trimArcs (keepOf m) m.states[q].arcs := by
    have : a ∈ ((trimStates (keepOf m) m.states m.states.length)[i]).arcs := ha
    rw [e2] at this; exact this
  obtain ⟨b, hb, hk, rfl⟩ := trim_arc ha'
  show 0 ≤ num _ _ ∧ num _ _ < _
  rw [num_kept hk]
  have := idx_lt (keepOf_len m) hk (to_lt hv _ (List.getElem_mem h1) b hb)
  exact ⟨by omega, by exact_mod_cast this⟩
theorem trim_valid : Valid (trimM m) := by
  refine ⟨Nat.le_trans (trim_len_le (keepOf_len m)) hv.size, ?_, ?_, ?_, fun s hs => ⟨?_, fun a ha => ?_⟩⟩
  · have := trim_arcs_le (keepOf_len m) m.states.length (Nat.le_refl _)
    rw [List.take_length] at this
    exact Nat.le_trans this hv.arcs
  · show -1 ≤ (if 0 ≤ m.start then num (keepOf m) m.start.toNat else -1)
    split
    · unfold num; split <;> omega
    · omega
  · show (if 0 ≤ m.start then num (keepOf m) m.start.toNat else -1) < _
    split
    · by_cases h : (keepOf m).getD m.start.toNat false = true
      · rw [num_kept h]
        have h2 := getD_lt h
        rw [keepOf_len] at h2
        have := idx_lt (keepOf_len m) h h2
        exact_mod_cast this
      · rw [num_lost h]; omega
    · omega
  · obtain ⟨i, hi, rfl⟩ := List.getElem_of_mem hs
    obtain ⟨q, h1, h2, h3⟩ := trim_from (keepOf_len m) i m.states.length (Nat.le_refl _) hi
    have e := trim_at (keepOf_len m) h2 h1
    rw [h3] at e
    obtain ⟨hlt, e2⟩ := List.getElem?_eq_some_iff.1 e
    show ValidFinal ((trimStates (keepOf m) m.states m.states.length)[i]).final
    rw [e2]
    exact (hv.st _ (List.getElem_mem h1)).1
  · have hto := trim_to hv s hs a ha
    obtain ⟨i, hi, rfl⟩ := List.getElem_of_mem hs
    obtain ⟨q, h1, h2, h3⟩ := trim_from (keepOf_len m) i m.states.length (Nat.le_refl _) hi
    have e := trim_at (keepOf_len m) h2 h1
    rw [h3] at e
    obtain ⟨hlt, e2⟩ := List.getElem?_eq_some_iff.1 e
    have ha' : a ∈ trimArcs (keepOf m) m.states[q].arcs := by
      have : a ∈ ((trimStates (keepOf m) m.states m.states.length)[i]).arcs := ha
      rw [e2] at this; exact this
    obtain ⟨b, hb, hk, rfl⟩ := trim_arc ha'
    have vb := (hv.st _ (List.getElem_mem h1)).2 b hb
    exact ⟨vb.i0, vb.i1, vb.o0, vb.o1, vb.w0, vb.w1, hto.1, hto.2⟩
theorem trim_RA {q : Nat} (h : RA m q) : RB m q → RA (trimM m) (idx (keepOf m) q) := by
  induction h with
  | start hq =>
    intro hb
    unfold startOf at hq
    split at hq
    · rename_i h0
      simp at hq; subst hq
      have hk := (keep_iff hv).2 ⟨.start (by unfold startOf; rw [if_pos h0]; simp), hb⟩
      exact .start (by rw [start_trim h0 hk]; simp)
    · simp at hq
  | step h1 hp ih =>
    intro hb
    have hb1 := RB_pre hv hb hp
    exact .step (ih hb1) (trim_ahead ((keep_iff hv).2 ⟨h1, hb1⟩) ((keep_iff hv).2 ⟨.step h1 hp, hb⟩) hp)
theorem trim_RB {q : Nat} (h : RB m q) : RA m q → RB (trimM m) (idx (keepOf m) q) := by
  induction h with
  | start hq =>
    intro ha
    have hk := (keep_iff hv).2 ⟨ha, .start hq⟩
    obtain ⟨hl, hf⟩ := (mem_endsOf _ _).1 hq
    have e := trim_at (keepOf_len m) hk hl
    obtain ⟨hlt, e2⟩ := List.getElem?_eq_some_iff.1 e
    refine .start ((mem_endsOf _ _).2 ⟨hlt, ?_⟩)
    show ((trimStates (keepOf m) m.states m.states.length)[idx (keepOf m) _]).final ≠ _
    rw [e2]; exact hf
  | step h1 hp ih =>
    intro ha
    obtain ⟨hl, a, har, he⟩ := (mem_backOf _ (to_lt hv) _ _).1 hp
    have hah := ahead_mem.2 ⟨hl, a, har, he⟩
    have ha1 : RA m _ := .step ha hah
    have h3 := trim_ahead ((keep_iff hv).2 ⟨ha, .step h1 hp⟩) ((keep_iff hv).2 ⟨ha1, h1⟩) hah
    obtain ⟨hl3, a3, ha3, he3⟩ := ahead_mem.1 h3
    refine .step (ih ha1) ((mem_backOf _ (fun s hs a ha => ?_) _ _).2 ⟨hl3, a3, ha3, he3⟩)
    have := trim_to hv s hs a ha
    omega
/-- each state of a trimmed machine lies on a path -/
theorem trim_all {i : Nat} (hi : i < (trimM m).states.length) : RA (trimM m) i ∧ RB (trimM m) i := by
  obtain ⟨q, h1, h2, rfl⟩ := trim_from (keepOf_len m) i m.states.length (Nat.le_refl _) hi
  obtain ⟨ha, hb⟩ := (keep_iff hv).1 h2
  exact ⟨trim_RA hv ha hb, trim_RB hv hb ha⟩
/-- a machine all of whose states lie on paths stays as it is -/
theorem trim_id (h : ∀ i, i < m.states.length → RA m i ∧ RB m i) : trimM m = m := by
  have hk : ∀ q, q < m.states.length → (keepOf m).getD q false = true := fun q hq => (keep_iff hv).2 (h q hq)
  have hidx : ∀ q, q ≤ m.states.length → idx (keepOf m) q = q := by
    intro q
    induction q with
    | zero => intro _; simp [idx]
    | succ q ih =>
      intro hq
      unfold idx at ih ⊢
      rw [num_snoc _ _ (by rw [keepOf_len]; omega), ih (by omega), if_pos (hk q (by omega))]
  have harc : ∀ s ∈ m.states, trimState (keepOf m) s = s := by
    intro s hs
    have h1 : s.arcs.filter (fun a => (keepOf m).getD a.to.toNat false) = s.arcs := by
      rw [List.filter_eq_self]; intro a ha; exact hk _ (to_lt hv s hs a ha)
    have h2 : s.arcs.map (numArc (keepOf m)) = s.arcs := by
      conv => rhs; rw [← List.map_id s.arcs]
      apply List.map_congr_left
      intro a ha
      have h3 := to_lt hv s hs a ha
      have h4 := ((hv.st s hs).2 a ha).t0
      unfold numArc
      rw [num_kept (hk _ h3), hidx _ (by omega)]
      cases a; simp at h4 ⊢; omega
    cases s with
    | mk f l => simp only [trimState, trimArcs] at h1 h2 ⊢; rw [h1, h2]
  have hst : ∀ k, k ≤ m.states.length → trimStates (keepOf m) m.states k = m.states.take k := by
    intro k
    induction k with
    | zero => intro _; simp [trimStates, keptUpto]
    | succ k ih =>
      intro hk2
      rw [trimStates_snoc _ _ (keepOf_len m) k (by omega), if_pos (hk k (by omega)), ih (by omega), harc _ (List.getElem_mem _), List.take_succ_eq_append_getElem (by omega)]
  have hs : (if 0 ≤ m.start then num (keepOf m) m.start.toNat else -1) = m.start := by
    have h0 := hv.s0; have h1 := hv.s1
    split
    · rw [num_kept (hk _ (by omega)), hidx _ (by omega)]; omega
    · omega
  have h2 := hst m.states.length (Nat.le_refl _)
  rw [List.take_length] at h2
  show trimMach (keepOf m) m = m
  unfold trimMach
  rw [hs, h2]
theorem trim_trim : trimM (trimM m) = trimM m := trim_id (trim_valid hv) (fun _ hi => trim_all hv hi)
theorem trim_start : ((trimM m).start < 0) ↔ (trimM m).states.length = 0 := by
  constructor
  · intro h
    rcases Nat.eq_zero_or_pos (trimM m).states.length with h0 | h0
    · exact h0
    · exfalso
      have := (trim_all hv h0).1
      have key : ∀ q, RA (trimM m) q → 0 ≤ (trimM m).start := by
        intro q hq
        induction hq with
        | start hq =>
          unfold startOf at hq
          split at hq
          · assumption
          · simp at hq
        | step _ _ ih => exact ih
      have := key _ this
      omega
  · intro h
    have := (trim_valid hv).s1
    omega
end
end Go.Proofs.Ytlfjccgbngnjhaa
