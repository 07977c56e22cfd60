/- How many paths there are in a machine whose arcs lead forward (plain). -/
import Derived.Test.YtfikkpgigicepaaPathsPlain
import Derived.Test.YtfikkpgigicepaaForwardPlain
namespace Go.Proofs.Ytfikkpgigicepaa

theorem nsum_le_part {n q : Nat} (hq : q ≤ n) {f g : Nat → Nat} (h0 : ∀ p, p < n → q ≤ p → f p = 0) (h1 : ∀ p, p < q → f p ≤ g p) : nsum n f ≤ nsum q g := by
  obtain ⟨k, rfl⟩ : ∃ k, n = q + k := ⟨n - q, by omega⟩
  rw [nsum_app, nsum_zero_of (n := k) (fun p hp => h0 (q + p) (by omega) (by omega))]
  exact nsum_le h1
theorem nsum_count (n : Nat) (L : List Nat) : nsum n (fun t => L.count t) ≤ L.length := by
  induction L with
  | nil => rw [nsum_zero_of (fun q _ => by simp)]; simp
  | cons a L ih =>
    have e : nsum n (fun t => (a :: L).count t) = nsum n (fun t => L.count t) + nsum n (fun t => if t = a then 1 else 0) := by
      rw [← nsum_add]
      refine nsum_congr fun q _ => ?_
      rw [List.count_cons]
      by_cases h : a = q
      · subst h; simp
      · have h2 : ¬ (q = a) := fun h' => h h'.symm
        simp [h, h2]
    rw [e]
    have : nsum n (fun t => if t = a then 1 else 0) ≤ 1 := by
      rcases Nat.lt_or_ge a n with h | h
      · rw [nsum_at h (fun _ => 1)]; exact Nat.le_refl _
      · rw [nsum_zero_of (fun q hq => if_neg (by omega))]; omega
    simp only [List.length_cons]
    omega
theorem nsum_pow (q : Nat) : nsum q (fun p => 5 ^ p * 4) + 1 = 5 ^ q := by
  induction q with
  | zero => rfl
  | succ q ih => rw [nsum_succ, Nat.pow_succ]; omega
/-- a machine of few states whose arcs lead forward from state 0 -/
structure FwdSmall (m : MachL) : Prop where
  v : Valid m
  f : Fwd m
  n1 : 1 ≤ m.states.length
  n8 : m.states.length ≤ 8
  s0 : m.start = 0
  a4 : ∀ s ∈ m.states, s.arcs.length ≤ 4
theorem ad_le {m : MachL} (h : FwdSmall m) (p q : Nat) : ad m p q ≤ 4 := by
  unfold ad
  refine Nat.le_trans List.count_le_length ?_
  unfold tos
  rcases Nat.lt_or_ge p m.states.length with hp | hp
  · rw [List.getElem?_eq_getElem hp]
    simp only [Option.map_some, Option.getD_some, List.length_map]
    exact h.a4 _ (List.getElem_mem hp)
  · rw [List.getElem?_eq_none hp]; simp
theorem tos_le {m : MachL} (h : FwdSmall m) (p : Nat) : (tos m p).length ≤ 4 := by
  unfold tos
  rcases Nat.lt_or_ge p m.states.length with hp | hp
  · rw [List.getElem?_eq_getElem hp]
    simp only [Option.map_some, Option.getD_some, List.length_map]
    exact h.a4 _ (List.getElem_mem hp)
  · rw [List.getElem?_eq_none hp]; simp
theorem ad_fwd {m : MachL} (h : FwdSmall m) {p q : Nat} (hpq : ad m p q ≠ 0) : p < q := fwd_tos h.f (ad_mem hpq)
theorem fwd_counts {m : MachL} (h : FwdSmall m) : ∃ M, Counts m 0 M ∧ (∀ q, q < m.states.length → M q ≤ 78125) ∧ tot m M ≤ 625000 := by
  obtain ⟨M, hM⟩ := counts_ex m.states.length m.states.length (fun q => if q = 0 then 1 else 0) (ad m) id (fun q hq => hq) (fun p q _ _ hpq => ad_fwd h hpq)
  have h0 : M 0 = 1 := by
    rw [hM 0 h.n1, nsum_zero_of (fun p _ => ?_)]
    · rfl
    · have : ad m p 0 = 0 := by
        apply Classical.byContradiction
        intro hne
        have := ad_fwd h hne
        omega
      rw [this]; simp
  have hb : ∀ k q, q < k → q < m.states.length → M q ≤ 5 ^ q := by
    intro k
    induction k with
    | zero => intro q hq; omega
    | succ k ih =>
      intro q hq hn
      by_cases hz : q = 0
      · subst hz; rw [h0]; exact Nat.le_refl _
      · rw [hM q hn, if_neg hz]
        have := nsum_le_part (n := m.states.length) (q := q) (by omega) (f := fun p => M p * ad m p q) (g := fun p => 5 ^ p * 4) (fun p hp hq2 => by
          have : ad m p q = 0 := by
            apply Classical.byContradiction
            intro hne
            have := ad_fwd h hne
            omega
          simp only [this, Nat.mul_zero]) (fun p hp => Nat.mul_le_mul (ih p (by omega) (by omega)) (ad_le h p q))
        have := nsum_pow q
        omega
  have hb2 : ∀ q, q < m.states.length → M q ≤ 78125 := fun q hq => by
    have h1 := hb (q + 1) q (by omega) hq
    have h2 : 5 ^ q ≤ 5 ^ 7 := Nat.pow_le_pow_right (by omega) (by have := h.n8; omega)
    have : (5 : Nat) ^ 7 = 78125 := by decide
    omega
  refine ⟨M, ⟨h0, fun q hq => hM q hq⟩, hb2, ?_⟩
  unfold tot
  have h1 : nsum m.states.length (fun q => if finB m q = true then M q else 0) ≤ nsum m.states.length (fun _ => 78125) := nsum_le fun q hq => by
    split
    · exact hb2 q hq
    · omega
  rw [nsum_const] at h1
  have := h.n8
  omega
/-- how many ways lead from each state to an end -/
theorem fwd_behind {m : MachL} (h : FwdSmall m) : ∃ B : Nat → Nat, (∀ q, q < m.states.length → B q = (if finB m q = true then 1 else 0) + nsum m.states.length (fun t => B t * ad m q t)) ∧ (∀ q, q < m.states.length → B q ≤ 390625) := by
  obtain ⟨B, hB⟩ := counts_ex m.states.length (m.states.length + 1) (fun q => if finB m q = true then 1 else 0) (fun p q => ad m q p) (fun q => m.states.length - q) (fun q hq => by omega) (fun p q hp hq hpq => by have := ad_fwd h hpq; omega)
  refine ⟨B, hB, fun q hq => ?_⟩
  have hb : ∀ k q, m.states.length - q < k → q < m.states.length → B q ≤ 5 ^ (m.states.length - q) := by
    intro k
    induction k with
    | zero => intro q hq; omega
    | succ k ih =>
      intro q hk hn
      rw [hB q hn]
      have h1 : nsum m.states.length (fun t => B t * ad m q t) ≤ nsum m.states.length (fun t => 5 ^ (m.states.length - (q + 1)) * ad m q t) := nsum_le fun t ht => by
        by_cases hz : ad m q t = 0
        · rw [hz]; simp
        · have := ad_fwd h hz
          refine Nat.mul_le_mul_right _ (Nat.le_trans (ih t (by omega) ht) (Nat.pow_le_pow_right (by omega) (by omega)))
      rw [nsum_mul] at h1
      have h2 : nsum m.states.length (ad m q) ≤ 4 := Nat.le_trans (nsum_count _ _) (tos_le h q)
      have h3 := Nat.mul_le_mul_left (5 ^ (m.states.length - (q + 1))) h2
      have h4 : 1 ≤ 5 ^ (m.states.length - (q + 1)) := Nat.pos_of_ne_zero (by simp)
      have h5 : 5 ^ (m.states.length - q) = 5 ^ (m.states.length - (q + 1)) * 5 := by rw [← Nat.pow_succ]; congr 1; omega
      split <;> omega
  have h1 := hb (m.states.length - q + 1) q (by omega) hq
  have h2 : 5 ^ (m.states.length - q) ≤ 5 ^ 8 := Nat.pow_le_pow_right (by omega) (by have := h.n8; omega)
  have : (5 : Nat) ^ 8 = 390625 := by decide
  omega
theorem tot_behind {m : MachL} (hn : 0 < m.states.length) {M B : Nat → Nat} (hC : Counts m 0 M) (hB : ∀ q, q < m.states.length → B q = (if finB m q = true then 1 else 0) + nsum m.states.length (fun t => B t * ad m q t)) : tot m M = B 0 := by
  have e1 : nsum m.states.length (fun q => M q * B q) = tot m M + nsum m.states.length (fun q => nsum m.states.length (fun t => M q * (B t * ad m q t))) := by
    unfold tot
    rw [← nsum_add]
    refine nsum_congr fun q hq => ?_
    rw [nsum_mul]
    have := hB q hq
    rw [this, Nat.mul_add]
    congr 1
    split <;> simp
  have e2 : nsum m.states.length (fun q => M q * B q) = B 0 + nsum m.states.length (fun q => nsum m.states.length (fun p => M p * ad m p q * B q)) := by
    rw [← nsum_at hn (fun q => B q), ← nsum_add]
    refine nsum_congr fun q hq => ?_
    rw [nsum_mulr, hC.eq q hq, Nat.add_mul]
    congr 1
    split <;> simp
  rw [nsum_comm] at e2
  have e3 : nsum m.states.length (fun q => nsum m.states.length (fun t => M q * (B t * ad m q t))) = nsum m.states.length (fun q => nsum m.states.length (fun p => M q * ad m q p * B p)) :=
    nsum_congr fun q _ => nsum_congr fun t _ => by rw [Nat.mul_comm (B t), Nat.mul_assoc]
  omega
theorem fwdSmall_madeK (r : RawL) (k : Int) (k1 : 1 ≤ k) (k8 : k ≤ 8) : FwdSmall (fwdM (mkMach r k false)) := by
  have h1 := mkMach_len r k false (by omega)
  have h2 : mkN r k ≤ k ∧ 1 ≤ mkN r k := by unfold mkN; omega
  have hv := valid_made r k false (by omega) (by omega)
  refine ⟨fwdM_valid hv (by omega), fwdM_fwd _, by rw [fwdM_len]; omega, by rw [fwdM_len]; omega, rfl, fun s hs => ?_⟩
  obtain ⟨q, hq, rfl⟩ := List.getElem_of_mem hs
  rw [fwdM_len] at hq
  simp only [fwdM, List.getElem_mapIdx]
  exact Nat.le_trans (fwdS_len _ _ _) (mk_arcs_small r k false _ (List.getElem_mem hq))
theorem fwdSmall_made (r : RawL) : FwdSmall (fwdM (mkMach r 8 false)) := fwdSmall_madeK r 8 (by omega) (by omega)
theorem FwdSmall.arcs {m : MachL} (h : FwdSmall m) : arcsOf m.states ≤ 32 := by
  have := sum_le4 _ h.a4
  have := h.n8
  omega
end Go.Proofs.Ytfikkpgigicepaa
