/- How many paths there are in a machine whose arcs lead forward, and in the same from behind (plain). -/
import Derived.Test.YtonjbchjfhknlaaPathsPlain
import Derived.Test.YtonjbchjfhknlaaOrderFwPlain
import Derived.Test.YtonjbchjfhknlaaRevPlain
namespace Go.Proofs.Ytonjbchjfhknlaa

theorem nsum_le_part {n q : Nat} (hq : q ≤ n) {f g : Nat → Nat} (h0 : ∀ p, p < n → q ≤ p → f p = 0) (h1 : ∀ p, p < q → f p ≤ g p) : nsum n f ≤ nsum q g := by
  obtain ⟨k, rfl⟩ : ∃ k, n = q + k := ⟨n - q, by omega⟩
  rw [nsum_app, nsum_zero_of (n := k) (fun p hp => h0 (q + p) (by omega) (by omega))]
  exact nsum_le h1
theorem nsum_count (n : Nat) (L : List Nat) : nsum n (fun t => L.count t) ≤ L.length := by
  induction L with
  | nil => rw [nsum_zero_of (fun q _ => by simp)]; simp
  | cons a L ih =>
    have e : nsum n (fun t => (a :: L).count t) = nsum n (fun t => L.count t) + nsum n (fun t => if t = a then 1 else 0) := by
      rw [← nsum_add]
      refine nsum_congr fun q _ => ?_
      rw [List.count_cons]
      by_cases h : a = q
      · subst h; simp
      · have h2 : ¬ (q = a) := fun h' => h h'.symm
        simp [h, h2]
    rw [e]
    have : nsum n (fun t => if t = a then 1 else 0) ≤ 1 := by
      rcases Nat.lt_or_ge a n with h | h
      · rw [nsum_at h (fun _ => 1)]; exact Nat.le_refl _
      · rw [nsum_zero_of (fun q hq => if_neg (by omega))]; omega
    simp only [List.length_cons]
    omega
theorem nsum_pow (q : Nat) : nsum q (fun p => 5 ^ p * 4) + 1 = 5 ^ q := by
  induction q with
  | zero => rfl
  | succ q ih => rw [nsum_succ, Nat.pow_succ]; omega
/-- a machine of few states whose arcs lead forward from state 0 -/
structure FwdSmall (m : MachL) : Prop where
  v : Valid m
  f : Fwd m
  n1 : 1 ≤ m.states.length
  n8 : m.states.length ≤ 8
  s0 : m.start = 0
  a4 : ∀ s ∈ m.states, s.arcs.length ≤ 4
theorem ad_le {m : MachL} (h : FwdSmall m) (p q : Nat) : ad m p q ≤ 4 := by
  unfold ad
  refine Nat.le_trans List.count_le_length ?_
  unfold tos
  rcases Nat.lt_or_ge p m.states.length with hp | hp
  · rw [List.getElem?_eq_getElem hp]
    simp only [Option.map_some, Option.getD_some, List.length_map]
    exact h.a4 _ (List.getElem_mem hp)
  · rw [List.getElem?_eq_none hp]; simp
theorem tos_le {m : MachL} (h : FwdSmall m) (p : Nat) : (tos m p).length ≤ 4 := by
  unfold tos
  rcases Nat.lt_or_ge p m.states.length with hp | hp
  · rw [List.getElem?_eq_getElem hp]
    simp only [Option.map_some, Option.getD_some, List.length_map]
    exact h.a4 _ (List.getElem_mem hp)
  · rw [List.getElem?_eq_none hp]; simp
theorem ad_fwd {m : MachL} (h : FwdSmall m) {p q : Nat} (hpq : ad m p q ≠ 0) : p < q := fwd_tos h.f (ad_mem hpq)
theorem fwd_counts {m : MachL} (h : FwdSmall m) : ∃ M, Counts m 0 M ∧ (∀ q, q < m.states.length → M q ≤ 78125) ∧ tot m M ≤ 625000 := by
  obtain ⟨M, hM⟩ := counts_ex m.states.length m.states.length (fun q => if q = 0 then 1 else 0) (ad m) id (fun q hq => hq) (fun p q _ _ hpq => ad_fwd h hpq)
  have h0 : M 0 = 1 := by
    rw [hM 0 h.n1, nsum_zero_of (fun p _ => ?_)]
    · rfl
    · have : ad m p 0 = 0 := by
        apply Classical.byContradiction
        intro hne
        have := ad_fwd h hne
        omega
      rw [this]; simp
  have hb : ∀ k q, q < k → q < m.states.length → M q ≤ 5 ^ q := by
    intro k
    induction k with
    | zero => intro q hq; omega
    | succ k ih =>
      intro q hq hn
      by_cases hz : q = 0
      · subst hz; rw [h0]; exact Nat.le_refl _
      · rw [hM q hn, if_neg hz]
        have := nsum_le_part (n := m.states.length) (q := q) (by omega) (f := fun p => M p * ad m p q) (g := fun p => 5 ^ p * 4) (fun p hp hq2 => by
          have : ad m p q = 0 := by
            apply Classical.byContradiction
            intro hne
            have := ad_fwd h hne
            omega
          simp only [this, Nat.mul_zero]) (fun p hp => Nat.mul_le_mul (ih p (by omega) (by omega)) (ad_le h p q))
        have := nsum_pow q
        omega
  have hb2 : ∀ q, q < m.states.length → M q ≤ 78125 := fun q hq => by
    have h1 := hb (q + 1) q (by omega) hq
    have h2 : 5 ^ q ≤ 5 ^ 7 := Nat.pow_le_pow_right (by omega) (by have := h.n8; omega)
    have : (5 : Nat) ^ 7 = 78125 := by decide
    omega
  refine ⟨M, ⟨h0, fun q hq => hM q hq⟩, hb2, ?_⟩
  unfold tot
  have h1 : nsum m.states.length (fun q => if finB m q = true then M q else 0) ≤ nsum m.states.length (fun _ => 78125) := nsum_le fun q hq => by
    split
    · exact hb2 q hq
    · omega
  rw [nsum_const] at h1
  have := h.n8
  omega
/-- how many ways lead from each state to an end -/
theorem fwd_behind {m : MachL} (h : FwdSmall m) : ∃ B : Nat → Nat, (∀ q, q < m.states.length → B q = (if finB m q = true then 1 else 0) + nsum m.states.length (fun t => B t * ad m q t)) ∧ (∀ q, q < m.states.length → B q ≤ 390625) := by
  obtain ⟨B, hB⟩ := counts_ex m.states.length (m.states.length + 1) (fun q => if finB m q = true then 1 else 0) (fun p q => ad m q p) (fun q => m.states.length - q) (fun q hq => by omega) (fun p q hp hq hpq => by have := ad_fwd h hpq; omega)
  refine ⟨B, hB, fun q hq => ?_⟩
  have hb : ∀ k q, m.states.length - q < k → q < m.states.length → B q ≤ 5 ^ (m.states.length - q) := by
    intro k
    induction k with
    | zero => intro q hq; omega
    | succ k ih =>
      intro q hk hn
      rw [hB q hn]
      have h1 : nsum m.states.length (fun t => B t * ad m q t) ≤ nsum m.states.length (fun t => 5 ^ (m.states.length - (q + 1)) * ad m q t) := nsum_le fun t ht => by
        by_cases hz : ad m q t = 0
        · rw [hz]; simp
        · have := ad_fwd h hz
          refine Nat.mul_le_mul_right _ (Nat.le_trans (ih t (by omega) ht) (Nat.pow_le_pow_right (by omega) (by omega)))
      rw [nsum_mul] at h1
      have h2 : nsum m.states.length (ad m q) ≤ 4 := Nat.le_trans (nsum_count _ _) (tos_le h q)
      have h3 := Nat.mul_le_mul_left (5 ^ (m.states.length - (q + 1))) h2
      have h4 : 1 ≤ 5 ^ (m.states.length - (q + 1)) := Nat.pos_of_ne_zero (by simp)
      have h5 : 5 ^ (m.states.length - q) = 5 ^ (m.states.length - (q + 1)) * 5 := by rw [← Nat.pow_succ]; congr 1; omega
      split <;> omega
  have h1 := hb (m.states.length - q + 1) q (by omega) hq
  have h2 : 5 ^ (m.states.length - q) ≤ 5 ^ 8 := Nat.pow_le_pow_right (by omega) (by have := h.n8; omega)
  have : (5 : Nat) ^ 8 = 390625 := by decide
  omega
theorem tot_behind {m : MachL} (hn : 0 < m.states.length) {M B : Nat → Nat} (hC : Counts m 0 M) (hB : ∀ q, q < m.states.length → B q = (if finB m q = true then 1 else 0) + nsum m.states.length (fun t => B t * ad m q t)) : tot m M = B 0 := by
  have e1 : nsum m.states.length (fun q => M q * B q) = tot m M + nsum m.states.length (fun q => nsum m.states.length (fun t => M q * (B t * ad m q t))) := by
    unfold tot
    rw [← nsum_add]
    refine nsum_congr fun q hq => ?_
    rw [nsum_mul]
    have := hB q hq
    rw [this, Nat.mul_add]
    congr 1
    split <;> simp
  have e2 : nsum m.states.length (fun q => M q * B q) = B 0 + nsum m.states.length (fun q => nsum m.states.length (fun p => M p * ad m p q * B q)) := by
    rw [← nsum_at hn (fun q => B q), ← nsum_add]
    refine nsum_congr fun q hq => ?_
    rw [nsum_mulr, hC.eq q hq, Nat.add_mul]
    congr 1
    split <;> simp
  rw [nsum_comm] at e2
  have e3 : nsum m.states.length (fun q => nsum m.states.length (fun t => M q * (B t * ad m q t))) = nsum m.states.length (fun q => nsum m.states.length (fun p => M q * ad m q p * B p)) :=
    nsum_congr fun q _ => nsum_congr fun t _ => by rw [Nat.mul_comm (B t), Nat.mul_assoc]
  omega
section
variable {m : MachL}
theorem rev_tos (hv : Valid m) (x : Nat) (hx : x < m.states.length + 1) : tos (revM m) x = ((revTo m.states m.states.length).filter (fun y => y.1 = x)).map (fun y => y.2.to.toNat) := by
  have hx' : x < (revM m).states.length := by rw [rev_len]; exact hx
  unfold tos
  rw [List.getElem?_eq_getElem hx']
  simp only [Option.map_some, Option.getD_some]
  rw [rev_arcs hv x hx', List.map_map]; rfl
theorem count_filter_map (L : List (Nat × ArcL)) (x z : Nat) : ((L.filter (fun y => y.1 = x)).map (fun y => y.2.to.toNat)).count z = L.countP (fun y => decide (y.1 = x) && decide (y.2.to.toNat = z)) := by
  induction L with
  | nil => rfl
  | cons a L ih =>
    rw [List.countP_cons, ← ih]
    by_cases h : a.1 = x
    · rw [List.filter_cons_of_pos (by simpa using h), List.map_cons, List.count_cons]
      simp [h]
    · rw [List.filter_cons_of_neg (by simpa using h)]
      simp [h]
theorem rev_ad (hv : Valid m) (x : Nat) (hx : x < m.states.length + 1) (z : Nat) : ad (revM m) x z = nsum m.states.length (fun q => ((m.states[q]?).map (fun s => (revOne q s).countP (fun y => decide (y.1 = x) && decide (y.2.to.toNat = z)))).getD 0) := by
  unfold ad
  rw [rev_tos hv x hx, count_filter_map]
  unfold revTo nsum
  rw [List.countP_flatMap]
  congr 1
  apply List.map_congr_left
  intro q hq
  simp only [Function.comp]
  cases m.states[q]? <;> simp
theorem revOne_count (q : Nat) (s : StateL) (x z : Nat) : (revOne q s).countP (fun y => decide (y.1 = x) && decide (y.2.to.toNat = z)) = if z = q + 1 then (if x = 0 then (if s.final = 1000000001 then 0 else 1) else (s.arcs.map (fun a => a.to.toNat)).count (x - 1)) else 0 := by
  unfold revOne
  rw [List.countP_append]
  have hz : ∀ l : List ArcL, (l.map (fun a => (a.to.toNat + 1, (⟨a.inn, a.out, a.wt, (q : Int) + 1⟩ : ArcL)))).countP (fun y => decide (y.1 = x) && decide (y.2.to.toNat = z)) = if z = q + 1 then (if x = 0 then 0 else (l.map (fun a => a.to.toNat)).count (x - 1)) else 0 := by
    intro l
    induction l with
    | nil => simp
    | cons a l ih =>
      rw [List.map_cons, List.countP_cons, ih, List.map_cons, List.count_cons]
      have e : ((q : Int) + 1).toNat = q + 1 := by omega
      simp only [e]
      by_cases hzq : z = q + 1
      · subst hzq
        by_cases hx : x = 0
        · subst hx; simp
        · simp only [hx, if_false, if_true]
          by_cases hax : a.to.toNat + 1 = x
          · have : a.to.toNat = x - 1 := by omega
            have : x - 1 + 1 = x := by omega
            simp_all
          · have : ¬ a.to.toNat = x - 1 := by omega
            simp [hax, this]
      · have : ¬ (q + 1 = z) := fun h => hzq h.symm
        simp [hzq, this]
  rw [hz]
  have e : ((q : Int) + 1).toNat = q + 1 := by omega
  by_cases hf : s.final = 1000000001
  · rw [if_pos hf]
    simp only [List.countP_nil, hf, if_true]
    split <;> (try split) <;> simp_all
  · rw [if_neg hf]
    simp only [List.countP_cons, List.countP_nil, e, hf, if_false]
    by_cases hzq : z = q + 1
    · subst hzq
      by_cases hx : x = 0
      · subst hx; simp
      · have : ¬ (0 = x) := fun h => hx h.symm
        simp [hx, this]
    · have : ¬ (q + 1 = z) := fun h => hzq h.symm
      simp [hzq, this]
theorem rev_ad_zero (hv : Valid m) (x : Nat) (hx : x < m.states.length + 1) : ad (revM m) x 0 = 0 := by
  rw [rev_ad hv x hx]
  refine nsum_zero_of fun q hq => ?_
  rw [List.getElem?_eq_getElem hq]
  simp only [Option.map_some, Option.getD_some]
  rw [revOne_count, if_neg (by omega)]
theorem rev_ad_succ (hv : Valid m) (x q : Nat) (hx : x < m.states.length + 1) (hq : q < m.states.length) : ad (revM m) x (q + 1) = if x = 0 then (if finB m q = true then 1 else 0) else ad m q (x - 1) := by
  rw [rev_ad hv x hx]
  have e : nsum m.states.length (fun q' => ((m.states[q']?).map (fun s => (revOne q' s).countP (fun y => decide (y.1 = x) && decide (y.2.to.toNat = q + 1)))).getD 0) = nsum m.states.length (fun q' => if q' = q then (if x = 0 then (if finB m q = true then 1 else 0) else ad m q (x - 1)) else 0) := by
    refine nsum_congr fun q' hq' => ?_
    rw [List.getElem?_eq_getElem hq']
    simp only [Option.map_some, Option.getD_some]
    rw [revOne_count]
    by_cases hqq : q' = q
    · subst hqq
      rw [if_pos rfl, if_pos rfl]
      congr 1
      · unfold finB
        rw [List.getElem?_eq_getElem hq']
        simp only [Option.map_some, Option.getD_some]
        by_cases hf : m.states[q'].final = 1000000001 <;> simp [hf]
      · unfold ad tos
        rw [List.getElem?_eq_getElem hq']; rfl
    · rw [if_neg (by omega), if_neg hqq]
  rw [e, nsum_at hq (fun _ => _)]
theorem rev_finB (hv : Valid m) (h0 : m.start = 0) (x : Nat) (hx : x < m.states.length + 1) : finB (revM m) x = decide (x = 1) := by
  have h := rev_final_at hv x hx
  unfold finB
  cases e : (revM m).states[x]? with
  | none => rw [e] at h; simp at h
  | some s =>
    rw [e] at h
    simp only [Option.map_some, Option.some.injEq] at h
    simp only [Option.map_some, Option.getD_some, h, h0]
    by_cases h1 : x = 1
    · subst h1; simp
    · have : ¬ (1 = x) := fun h => h1 h.symm
      simp [h1, this]
theorem rev_counts (h : FwdSmall m) {B : Nat → Nat} (hB : ∀ q, q < m.states.length → B q = (if finB m q = true then 1 else 0) + nsum m.states.length (fun t => B t * ad m q t)) (hb : ∀ q, q < m.states.length → B q ≤ 390625) :
    ∃ M, Counts (revM m) 0 M ∧ (∀ q, q < (revM m).states.length → M q ≤ 390625) ∧ tot (revM m) M = B 0 := by
  have hv := h.v
  refine ⟨fun x => if x = 0 then 1 else B (x - 1), ⟨rfl, fun x hx => ?_⟩, fun x hx => ?_, ?_⟩
  · rw [rev_len] at hx ⊢
    cases x with
    | zero =>
      rw [nsum_zero_of (fun p hp => by rw [rev_ad_zero hv p hp]; simp)]; rfl
    | succ q =>
      have hq : q < m.states.length := by omega
      rw [nsum_first, if_neg (by omega), if_neg (by omega)]
      have e0 : ad (revM m) 0 (q + 1) = if finB m q = true then 1 else 0 := by rw [rev_ad_succ hv 0 q (by omega) hq]; simp
      have e1 : ∀ t, t < m.states.length → (if t + 1 = 0 then 1 else B (t + 1 - 1)) * ad (revM m) (t + 1) (q + 1) = B t * ad m q t := fun t ht => by
        rw [rev_ad_succ hv (t + 1) q (by omega) hq]; simp
      rw [nsum_congr e1, e0]
      simp only [Nat.add_sub_cancel, if_true, Nat.one_mul, Nat.zero_add]
      exact hB q hq
  · rw [rev_len] at hx
    simp only
    split
    · omega
    · exact hb _ (by omega)
  · unfold tot
    rw [rev_len]
    have e : nsum (m.states.length + 1) (fun q => if finB (revM m) q = true then (if q = 0 then 1 else B (q - 1)) else 0) = nsum (m.states.length + 1) (fun q => if q = 1 then (if q = 0 then 1 else B (q - 1)) else 0) := nsum_congr fun q hq => by
      rw [rev_finB hv h.s0 q hq]; simp
    rw [e, nsum_at (by have := h.n1; omega) (fun q => if q = 0 then 1 else B (q - 1))]; rfl
theorem rev_not_stuck (h : FwdSmall m) (S : Nat → Prop) : ¬ Stuck (revM m) S := by
  rintro ⟨⟨q, hq⟩, hs⟩
  have hv := h.v
  have key : ∀ k x, m.states.length < x + k → S x → False := by
    intro k
    induction k with
    | zero =>
      intro x hx hS
      have := (hs x hS).1
      rw [rev_len] at this
      obtain ⟨_, p, hp, ht⟩ := hs x hS
      omega
    | succ k ih =>
      intro x hx hS
      obtain ⟨hxl, p, hp, ht⟩ := hs x hS
      have hpl := (hs p hp).1
      rw [rev_len] at hxl hpl
      have hne : ad (revM m) p x ≠ 0 := by unfold ad; have := List.count_pos_iff.2 ht; omega
      cases x with
      | zero => exact hne (rev_ad_zero hv p hpl)
      | succ q =>
        rw [rev_ad_succ hv p q hpl (by omega)] at hne
        by_cases h0 : p = 0
        · subst h0
          obtain ⟨hxl, p', hp', ht'⟩ := hs 0 hp
          have hpl' := (hs p' hp').1
          rw [rev_len] at hpl'
          have hne' : ad (revM m) p' 0 ≠ 0 := by unfold ad; have := List.count_pos_iff.2 ht'; omega
          exact hne' (rev_ad_zero hv p' hpl')
        · rw [if_neg h0] at hne
          have := ad_fwd h hne
          exact ih p (by omega) hp
  exact key (m.states.length + 1) q (by omega) hq
end
theorem fwdSmall_made (r : RawL) : FwdSmall (fwdM (mkMach r 8 false)) := by
  have h1 := mkMach_len r 8 false (by omega)
  have h2 : mkN r 8 ≤ 8 ∧ 1 ≤ mkN r 8 := by unfold mkN; omega
  have hv := valid_made r 8 false (by omega) (by omega)
  refine ⟨fwdM_valid hv (by omega), fwdM_fwd _, by rw [fwdM_len]; omega, by rw [fwdM_len]; omega, rfl, fun s hs => ?_⟩
  obtain ⟨q, hq, rfl⟩ := List.getElem_of_mem hs
  rw [fwdM_len] at hq
  simp only [fwdM, List.getElem_mapIdx]
  exact Nat.le_trans (fwdS_len _ _ _) (mk_arcs_small r 8 false _ (List.getElem_mem hq))
theorem FwdSmall.arcs {m : MachL} (h : FwdSmall m) : arcsOf m.states ≤ 32 := by
  have := sum_le4 _ h.a4
  have := h.n8
  omega
end Go.Proofs.Ytonjbchjfhknlaa
