/- How many paths two machines have together, and how long the longest is (plain). -/
import Derived.Test.YteniblkmokpjjaaLongFw
import Derived.Test.YteniblkmokpjjaaConcatGet
namespace Go.Proofs.Yteniblkmokpjjaa

theorem count_add (L : List Nat) (d z : Nat) : (L.map (fun t => d + t)).count z = if d ≤ z then L.count (z - d) else 0 := by
  induction L with
  | nil => simp
  | cons t L ih =>
    rw [List.map_cons, List.count_cons, ih, List.count_cons]
    by_cases h : d ≤ z
    · have e1 : (d + t == z) = (t == z - d) := by rw [Bool.eq_iff_iff]; simp; omega
      rw [if_pos h, if_pos h, e1]
    · rw [if_neg h, if_neg h]
      have : ¬ d + t = z := by omega
      simp [this]
theorem tos_get {m : MachL} {q : Nat} {s : StateL} (h : m.states[q]? = some s) : tos m q = s.arcs.map (fun a => a.to.toNat) := by unfold tos; rw [h]; rfl
theorem finB_get {m : MachL} {q : Nat} {s : StateL} (h : m.states[q]? = some s) : finB m q = (s.final != 1000000001) := by unfold finB; rw [h]; rfl
theorem tos_mov {d : Nat} {n : Int} {s : StateL} (hv : ∀ a ∈ s.arcs, ValidArc n a) : (movS d s).arcs.map (fun a => a.to.toNat) = (s.arcs.map (fun a => a.to.toNat)).map (fun t => d + t) := by
  simp only [movS, List.map_map]
  apply List.map_congr_left
  intro a ha
  have := (hv a ha).t0
  simp only [Function.comp, movA]
  omega
section
variable {m M : MachL} {d : Nat}
theorem emb_tos (h : Emb m M d) (hv : Valid m) {q : Nat} (hq : q < m.states.length) : tos M (d + q) = (tos m q).map (fun t => d + t) := by
  have hg := List.getElem?_eq_getElem hq
  rw [tos_get (h q _ hg), tos_get hg]
  exact tos_mov (hv.st _ (List.getElem_mem hq)).2
theorem emb_ad (h : Emb m M d) (hv : Valid m) {q : Nat} (hq : q < m.states.length) (z : Nat) : ad M (d + q) z = if d ≤ z then ad m q (z - d) else 0 := by
  unfold ad
  rw [emb_tos h hv hq, count_add]
theorem emb_fin (h : Emb m M d) {q : Nat} (hq : q < m.states.length) : finB M (d + q) = finB m q := by
  have hg := List.getElem?_eq_getElem hq
  rw [finB_get (h q _ hg), finB_get hg]; rfl
theorem ad_out (hv : Valid m) {q z : Nat} (hz : m.states.length ≤ z) : ad m q z = 0 := by
  apply Classical.byContradiction
  intro hne
  have := tos_lt hv (ad_mem hne)
  omega
theorem not_stuck_of (h : ∀ p q, q ∈ tos m p → p < q) (S : Nat → Prop) : ¬ Stuck m S := by
  rintro ⟨⟨q, hq⟩, hs⟩
  have key : ∀ n q, q < n → ¬ S q := by
    intro n
    induction n with
    | zero => intro q hq; omega
    | succ n ih =>
      intro q hq hS
      obtain ⟨_, p, hp, ht⟩ := hs q hS
      have := h p q ht
      exact ih p (by omega) hp
  exact key (q + 1) q (by omega) hq
theorem nsum_one (f : Nat → Nat) : nsum 1 f = f 0 := by rw [nsum_succ, nsum_zero, Nat.zero_add]
end
section
variable {a b : MachL} {A B : Nat → Nat}
theorem counts_le (h : FwdSmall a) (hC : Counts a 0 A) {q : Nat} (hq : q < a.states.length) : A q ≤ 5 ^ q := by
  have hb : ∀ k q, q < k → q < a.states.length → A q ≤ 5 ^ q := by
    intro k
    induction k with
    | zero => intro q hq; omega
    | succ k ih =>
      intro q hq hn
      by_cases hz : q = 0
      · subst hz; rw [hC.one]; exact Nat.le_refl _
      · rw [hC.eq q hn, if_neg hz]
        have := nsum_le_part (n := a.states.length) (q := q) (by omega) (f := fun p => A p * ad a p q) (g := fun p => 5 ^ p * 4) (fun p hp hq2 => by
          have : ad a p q = 0 := by
            apply Classical.byContradiction
            intro hne
            have := ad_fwd h hne
            omega
          simp only [this, Nat.mul_zero]) (fun p hp => Nat.mul_le_mul (ih p (by omega) (by omega)) (ad_le h p q))
        have := nsum_pow q
        omega
  exact hb (q + 1) q (by omega) hq
theorem counts6 (h : FwdSmall a) (h6 : a.states.length ≤ 6) : ∃ A, Counts a 0 A ∧ (∀ q, q < a.states.length → A q ≤ 3125) ∧ tot a A ≤ 18750 := by
  obtain ⟨A, hC, -, -⟩ := fwd_counts h
  have hb : ∀ q, q < a.states.length → A q ≤ 3125 := fun q hq => by
    have h1 := counts_le h hC hq
    have h2 : 5 ^ q ≤ 5 ^ 5 := Nat.pow_le_pow_right (by omega) (by omega)
    have : (5 : Nat) ^ 5 = 3125 := by decide
    omega
  refine ⟨A, hC, hb, ?_⟩
  unfold tot
  have h1 : nsum a.states.length (fun q => if finB a q = true then A q else 0) ≤ nsum a.states.length (fun _ => 3125) := nsum_le fun q hq => by
    split
    · exact hb q hq
    · omega
  rw [nsum_const] at h1
  omega
/-! one or the other -/
theorem union_tos0 (ha0 : a.start = 0) (hb0 : b.start = 0) : tos (unionM a b) 0 = [1, 1 + a.states.length] := by
  rw [tos_get (union_get0 a b)]
  unfold hopL
  rw [ha0, hb0, if_pos (by omega), if_pos (by omega)]
  simp only [List.map_cons, List.map_nil, List.cons_append, List.nil_append]
  congr 2
  omega
theorem union_ad0 (ha0 : a.start = 0) (hb0 : b.start = 0) (z : Nat) : ad (unionM a b) 0 z = (if z = 1 then 1 else 0) + (if z = 1 + a.states.length then 1 else 0) := by
  unfold ad
  rw [union_tos0 ha0 hb0]
  simp only [List.count_cons, List.count_nil, beq_iff_eq]
  have e1 : (1 = z) = (z = 1) := propext ⟨Eq.symm, Eq.symm⟩
  have e2 : (1 + a.states.length = z) = (z = 1 + a.states.length) := propext ⟨Eq.symm, Eq.symm⟩
  simp only [e1, e2]
  omega
theorem union_fin0 : finB (unionM a b) 0 = false := by
  rw [finB_get (union_get0 a b)]; rfl
def unionC (a : MachL) (A B : Nat → Nat) (q : Nat) : Nat := if q = 0 then 1 else if q < 1 + a.states.length then A (q - 1) else B (q - (1 + a.states.length))
theorem unionC0 : unionC a A B 0 = 1 := rfl
theorem unionC1 {q : Nat} (hq : q < a.states.length) : unionC a A B (1 + q) = A q := by
  unfold unionC; rw [if_neg (by omega), if_pos (by omega), Nat.add_sub_cancel_left]
theorem unionC2 (q : Nat) : unionC a A B (1 + a.states.length + q) = B q := by
  unfold unionC; rw [if_neg (by omega), if_neg (by omega), Nat.add_sub_cancel_left]
theorem union_sum (f : Nat → Nat) : nsum (unionM a b).states.length f = f 0 + nsum a.states.length (fun p => f (1 + p)) + nsum b.states.length (fun p => f (1 + a.states.length + p)) := by
  rw [union_len, nsum_app, nsum_app, nsum_one]
theorem union_counts (ha : Valid a) (hb : Valid b) (ha0 : a.start = 0) (hb0 : b.start = 0) (hn : 1 ≤ a.states.length) (hA : Counts a 0 A) (hB : Counts b 0 B) : Counts (unionM a b) 0 (unionC a A B) := by
  refine ⟨rfl, fun z hz => ?_⟩
  rw [union_len] at hz
  rw [union_sum, unionC0, Nat.one_mul, union_ad0 ha0 hb0]
  have e1 : nsum a.states.length (fun p => unionC a A B (1 + p) * ad (unionM a b) (1 + p) z) = nsum a.states.length (fun p => A p * (if 1 ≤ z then ad a p (z - 1) else 0)) :=
    nsum_congr fun p hp => by rw [unionC1 hp, emb_ad (union_emb1 a b) ha hp]
  have e2 : nsum b.states.length (fun p => unionC a A B (1 + a.states.length + p) * ad (unionM a b) (1 + a.states.length + p) z) = nsum b.states.length (fun p => B p * (if 1 + a.states.length ≤ z then ad b p (z - (1 + a.states.length)) else 0)) :=
    nsum_congr fun p hp => by rw [unionC2, emb_ad (union_emb2 a b) hb hp]
  rw [e1, e2]
  by_cases h0 : z = 0
  · subst h0
    have z1 : nsum a.states.length (fun p => A p * (if 1 ≤ 0 then ad a p (0 - 1) else 0)) = 0 := nsum_zero_of fun p _ => by rw [if_neg (by omega), Nat.mul_zero]
    have z2 : nsum b.states.length (fun p => B p * (if 1 + a.states.length ≤ 0 then ad b p (0 - (1 + a.states.length)) else 0)) = 0 := nsum_zero_of fun p _ => by rw [if_neg (by omega), Nat.mul_zero]
    have z3 : ¬ (0 = 1 + a.states.length) := by omega
    rw [z1, z2, unionC0, if_neg z3]
    rfl
  · by_cases h1 : z < 1 + a.states.length
    · obtain ⟨y, rfl⟩ : ∃ y, z = 1 + y := ⟨z - 1, by omega⟩
      have hy : y < a.states.length := by omega
      rw [unionC1 hy, hA.eq y hy]
      have z2 : nsum b.states.length (fun p => B p * (if 1 + a.states.length ≤ 1 + y then ad b p (1 + y - (1 + a.states.length)) else 0)) = 0 := nsum_zero_of fun p _ => by rw [if_neg (by omega), Nat.mul_zero]
      have z1 : nsum a.states.length (fun p => A p * (if 1 ≤ 1 + y then ad a p (1 + y - 1) else 0)) = nsum a.states.length (fun p => A p * ad a p y) := nsum_congr fun p _ => by rw [if_pos (by omega), Nat.add_sub_cancel_left]
      rw [z1, z2]
      rw [if_neg (by omega : ¬ 1 + y = 0), if_neg (by omega : ¬ 1 + y = 1 + a.states.length)]
      by_cases hy0 : y = 0
      · rw [if_pos hy0, if_pos (by omega)]; omega
      · rw [if_neg hy0, if_neg (by omega)]; omega
    · obtain ⟨y, rfl⟩ : ∃ y, z = 1 + a.states.length + y := ⟨z - (1 + a.states.length), by omega⟩
      have hy : y < b.states.length := by omega
      rw [unionC2, hB.eq y hy]
      have z1 : nsum a.states.length (fun p => A p * (if 1 ≤ 1 + a.states.length + y then ad a p (1 + a.states.length + y - 1) else 0)) = 0 := nsum_zero_of fun p _ => by rw [if_pos (by omega), ad_out ha (by omega), Nat.mul_zero]
      have z2 : nsum b.states.length (fun p => B p * (if 1 + a.states.length ≤ 1 + a.states.length + y then ad b p (1 + a.states.length + y - (1 + a.states.length)) else 0)) = nsum b.states.length (fun p => B p * ad b p y) := nsum_congr fun p _ => by rw [if_pos (by omega), Nat.add_sub_cancel_left]
      rw [z1, z2]
      rw [if_neg (by omega : ¬ 1 + a.states.length + y = 0), if_neg (by omega : ¬ 1 + a.states.length + y = 1)]
      by_cases hy0 : y = 0
      · rw [if_pos hy0, if_pos (by omega)]; omega
      · rw [if_neg hy0, if_neg (by omega)]; omega
theorem union_total : tot (unionM a b) (unionC a A B) = tot a A + tot b B := by
  unfold tot
  rw [union_sum, union_fin0]
  have e1 : nsum a.states.length (fun p => if finB (unionM a b) (1 + p) = true then unionC a A B (1 + p) else 0) = nsum a.states.length (fun q => if finB a q = true then A q else 0) :=
    nsum_congr fun p hp => by rw [unionC1 hp, emb_fin (union_emb1 a b) hp]
  have e2 : nsum b.states.length (fun p => if finB (unionM a b) (1 + a.states.length + p) = true then unionC a A B (1 + a.states.length + p) else 0) = nsum b.states.length (fun q => if finB b q = true then B q else 0) :=
    nsum_congr fun p hp => by rw [unionC2, emb_fin (union_emb2 a b) hp]
  rw [e1, e2]
  simp
theorem union_stuck (ha : FwdSmall a) (hb : FwdSmall b) (S : Nat → Prop) : ¬ Stuck (unionM a b) S := not_stuck_of (fun p q hq => by
  have h1 := ha.n1
  obtain ⟨hp, -⟩ := mem_tos hq
  rw [union_len] at hp
  by_cases h0 : p = 0
  · subst h0
    rw [union_tos0 ha.s0 hb.s0] at hq
    simp at hq
    omega
  · by_cases hpa : p < 1 + a.states.length
    · obtain ⟨y, rfl⟩ : ∃ y, p = 1 + y := ⟨p - 1, by omega⟩
      rw [emb_tos (union_emb1 a b) ha.v (by omega)] at hq
      obtain ⟨t, ht, rfl⟩ := List.mem_map.1 hq
      have := fwd_tos ha.f ht
      omega
    · obtain ⟨y, rfl⟩ : ∃ y, p = 1 + a.states.length + y := ⟨p - (1 + a.states.length), by omega⟩
      rw [emb_tos (union_emb2 a b) hb.v (by omega)] at hq
      obtain ⟨t, ht, rfl⟩ := List.mem_map.1 hq
      have := fwd_tos hb.f ht
      omega) S
/-! one behind the other -/
theorem concat_tos1 (ha : Valid a) (hb0 : b.start = 0) {q : Nat} (hq : q < a.states.length) : tos (concatM a b) q = tos a q ++ if finB a q = true then [a.states.length] else [] := by
  have hg := List.getElem?_eq_getElem hq
  have h1 := concat_get1 a b q hq
  rw [hg] at h1
  have hT : concatT a b = a.states.length := by unfold concatT; rw [hb0, if_pos (by omega), concat1_len]; omega
  rw [tos_get h1, tos_get hg, finB_get hg, hT]
  have e0 : (a.states[q].final != 1000000001) = true ↔ ¬ (a.states[q].final = 1000000001) := by simp
  have e1 : (movS 0 a.states[q]).final = a.states[q].final := rfl
  have e2 := tos_mov (d := 0) (hv := (ha.st _ (List.getElem_mem hq)).2)
  simp only [looseS, List.map_append, e1]
  congr 1
  · rw [show ((0 : Int)) = ((0 : Nat) : Int) from rfl, e2]
    simp
  · by_cases hf : a.states[q].final = 1000000001
    · rw [if_pos (.inl hf), if_neg (by simp [hf])]; rfl
    · rw [if_neg (by omega), if_pos (by simpa using hf)]; rfl
theorem concat_ad1 (ha : Valid a) (hb0 : b.start = 0) {q : Nat} (hq : q < a.states.length) (z : Nat) : ad (concatM a b) q z = ad a q z + if z = a.states.length then (if finB a q = true then 1 else 0) else 0 := by
  unfold ad
  rw [concat_tos1 ha hb0 hq, List.count_append]
  congr 1
  by_cases hf : finB a q = true
  · rw [if_pos hf, if_pos hf]
    by_cases hz : z = a.states.length
    · subst hz; simp
    · have : ¬ (a.states.length = z) := fun h => hz h.symm
      simp [hz, this]
  · rw [if_neg hf, if_neg hf]; simp
theorem concat_fin1 {q : Nat} (hq : q < a.states.length) : finB (concatM a b) q = false := by
  have h1 := concat_get1 a b q hq
  rw [List.getElem?_eq_getElem hq] at h1
  rw [finB_get h1]; rfl
def concatC (a : MachL) (A B : Nat → Nat) (q : Nat) : Nat := if q < a.states.length then A q else tot a A * B (q - a.states.length)
theorem concatC1 {q : Nat} (hq : q < a.states.length) : concatC a A B q = A q := by unfold concatC; rw [if_pos hq]
theorem concatC2 (q : Nat) : concatC a A B (a.states.length + q) = tot a A * B q := by
  unfold concatC; rw [if_neg (by omega), Nat.add_sub_cancel_left]
theorem concat_sum (f : Nat → Nat) : nsum (concatM a b).states.length f = nsum a.states.length f + nsum b.states.length (fun p => f (a.states.length + p)) := by
  rw [concat_len, nsum_app]
theorem concat_counts (ha : Valid a) (hb : Valid b) (hb0 : b.start = 0) (hn : 1 ≤ a.states.length) (hA : Counts a 0 A) (hB : Counts b 0 B) : Counts (concatM a b) 0 (concatC a A B) := by
  refine ⟨by rw [concatC1 (by omega)]; exact hA.one, fun z hz => ?_⟩
  rw [concat_len] at hz
  rw [concat_sum]
  have e1 : nsum a.states.length (fun p => concatC a A B p * ad (concatM a b) p z) = nsum a.states.length (fun p => A p * ad a p z) + nsum a.states.length (fun p => if z = a.states.length then (if finB a p = true then A p else 0) else 0) := by
    rw [← nsum_add]
    refine nsum_congr fun p hp => ?_
    rw [concatC1 hp, concat_ad1 ha hb0 hp, Nat.mul_add]
    congr 1
    split
    · split <;> simp
    · simp
  have e2 : nsum b.states.length (fun p => concatC a A B (a.states.length + p) * ad (concatM a b) (a.states.length + p) z) = nsum b.states.length (fun p => tot a A * (B p * (if a.states.length ≤ z then ad b p (z - a.states.length) else 0))) :=
    nsum_congr fun p hp => by rw [concatC2, emb_ad (concat_emb a b) hb hp, Nat.mul_assoc]
  rw [e1, e2, nsum_mul]
  by_cases h1 : z < a.states.length
  · rw [concatC1 h1, hA.eq z h1]
    have z2 : nsum b.states.length (fun p => B p * (if a.states.length ≤ z then ad b p (z - a.states.length) else 0)) = 0 := nsum_zero_of fun p _ => by rw [if_neg (by omega), Nat.mul_zero]
    have z1 : nsum a.states.length (fun p => if z = a.states.length then (if finB a p = true then A p else 0) else 0) = 0 := nsum_zero_of fun p _ => if_neg (by omega)
    rw [z1, z2]
    simp
  · obtain ⟨y, rfl⟩ : ∃ y, z = a.states.length + y := ⟨z - a.states.length, by omega⟩
    have hy : y < b.states.length := by omega
    rw [concatC2, hB.eq y hy]
    have z1 : nsum a.states.length (fun p => A p * ad a p (a.states.length + y)) = 0 := nsum_zero_of fun p _ => by rw [ad_out ha (by omega), Nat.mul_zero]
    have z2 : nsum b.states.length (fun p => B p * (if a.states.length ≤ a.states.length + y then ad b p (a.states.length + y - a.states.length) else 0)) = nsum b.states.length (fun p => B p * ad b p y) := nsum_congr fun p _ => by rw [if_pos (by omega), Nat.add_sub_cancel_left]
    rw [z1, z2]
    rw [if_neg (by omega : ¬ a.states.length + y = 0), Nat.mul_add]
    by_cases hy0 : y = 0
    · subst hy0
      rw [if_pos rfl]
      have : nsum a.states.length (fun p => if a.states.length + 0 = a.states.length then (if finB a p = true then A p else 0) else 0) = tot a A := nsum_congr fun p _ => if_pos (by omega)
      rw [this]
      omega
    · rw [if_neg hy0]
      have z3 : nsum a.states.length (fun p => if a.states.length + y = a.states.length then (if finB a p = true then A p else 0) else 0) = 0 := nsum_zero_of fun p _ => if_neg (by omega)
      rw [z3]
      omega
theorem concat_total : tot (concatM a b) (concatC a A B) = tot a A * tot b B := by
  unfold tot
  rw [concat_sum]
  have z1 : nsum a.states.length (fun p => if finB (concatM a b) p = true then concatC a A B p else 0) = 0 := nsum_zero_of fun p hp => by rw [concat_fin1 hp]; rfl
  rw [z1, Nat.zero_add]
  have e2 : nsum b.states.length (fun p => if finB (concatM a b) (a.states.length + p) = true then concatC a A B (a.states.length + p) else 0) = nsum b.states.length (fun q => tot a A * if finB b q = true then B q else 0) :=
    nsum_congr fun p hp => by rw [concatC2, emb_fin (concat_emb a b) hp]; split <;> simp
  rw [e2, nsum_mul]; rfl
theorem concat_stuck (ha : FwdSmall a) (hb : FwdSmall b) (S : Nat → Prop) : ¬ Stuck (concatM a b) S := not_stuck_of (fun p q hq => by
  obtain ⟨hp, -⟩ := mem_tos hq
  rw [concat_len] at hp
  by_cases hpa : p < a.states.length
  · rw [concat_tos1 ha.v hb.s0 hpa] at hq
    rcases List.mem_append.1 hq with hq | hq
    · exact fwd_tos ha.f hq
    · split at hq
      · simp at hq; omega
      · cases hq
  · obtain ⟨y, rfl⟩ : ∃ y, p = a.states.length + y := ⟨p - a.states.length, by omega⟩
    rw [emb_tos (concat_emb a b) hb.v (by omega)] at hq
    obtain ⟨t, ht, rfl⟩ := List.mem_map.1 hq
    have := fwd_tos hb.f ht
    omega) S
/-! ways -/
theorem concat_way_to (ha : Valid a) (hb : Valid b) (hb0 : b.start = 0) (hna : 1 ≤ a.states.length) (hnb : 1 ≤ b.states.length) {z k : Nat} (hw : Way (concatM a b) 0 z k) :
    (z < a.states.length ∧ Way a 0 z k) ∨ ∃ y p ka kb, z = a.states.length + y ∧ y < b.states.length ∧ finB a p = true ∧ Way a 0 p ka ∧ Way b 0 y kb ∧ k = ka + 1 + kb := by
  induction hw with
  | zero => exact .inl ⟨by omega, Way.zero⟩
  | @step p q k hw hq ih =>
    rcases ih with ⟨hp, h1⟩ | ⟨y, p', ka, kb, rfl, hy, hf, h1, h2, rfl⟩
    · rw [concat_tos1 ha hb0 hp] at hq
      rcases List.mem_append.1 hq with hq | hq
      · exact .inl ⟨tos_lt ha hq, h1.step hq⟩
      · split at hq
        · rename_i hf
          simp at hq
          exact .inr ⟨0, p, k, 0, by omega, by omega, hf, h1, Way.zero, by omega⟩
        · cases hq
    · rw [emb_tos (concat_emb a b) hb hy] at hq
      obtain ⟨t, ht, rfl⟩ := List.mem_map.1 hq
      exact .inr ⟨t, p', ka, kb + 1, rfl, tos_lt hb ht, hf, h1, h2.step ht, by omega⟩
theorem way_in (hna : 1 ≤ a.states.length) (ha : Valid a) {z k : Nat} (hw : Way a 0 z k) : z < a.states.length := by
  cases hw with
  | zero => omega
  | step _ hq => exact tos_lt ha hq
theorem concat_way1 (ha : Valid a) (hb0 : b.start = 0) (hna : 1 ≤ a.states.length) {z k : Nat} (hw : Way a 0 z k) : Way (concatM a b) 0 z k := by
  induction hw with
  | zero => exact Way.zero
  | @step p q k hw hq ih =>
    refine ih.step ?_
    rw [concat_tos1 ha hb0 (way_in hna ha hw)]
    exact List.mem_append_left _ hq
theorem concat_way2 (ha : Valid a) (hb : Valid b) (hb0 : b.start = 0) (hna : 1 ≤ a.states.length) (hnb : 1 ≤ b.states.length) {p ka : Nat} (hf : finB a p = true) (h1 : Way a 0 p ka) {y kb : Nat} (h2 : Way b 0 y kb) : Way (concatM a b) 0 (a.states.length + y) (ka + 1 + kb) := by
  induction h2 with
  | zero =>
    refine (concat_way1 ha hb0 hna h1).step ?_
    rw [concat_tos1 ha hb0 (way_in hna ha h1), if_pos hf]
    exact List.mem_append_right _ (by simp)
  | @step y t k hw hq ih =>
    refine Way.step ih ?_
    rw [emb_tos (concat_emb a b) hb (way_in hnb hb hw)]
    exact List.mem_map.2 ⟨t, hq, rfl⟩
theorem concat_farthest (ha : Valid a) (hb : Valid b) (hb0 : b.start = 0) (hna : 1 ≤ a.states.length) (hnb : 1 ≤ b.states.length) {n k c : Nat} (h1 : Farthest a 0 n) (h2 : Farthest b 0 k) (h3 : Farthest (concatM a b) 0 c) : c = n + k + 1 := by
  obtain ⟨p, hp, wp⟩ := h1.has
  obtain ⟨y, hy, wy⟩ := h2.has
  obtain ⟨z, hz, wz⟩ := h3.has
  have w1 := concat_way2 ha hb hb0 hna hnb hp wp wy
  have l1 := h3.le _ _ (by rw [emb_fin (concat_emb a b) (way_in hnb hb wy)]; exact hy) w1
  rcases concat_way_to ha hb hb0 hna hnb wz with ⟨hzl, -⟩ | ⟨y', p', ka, kb, rfl, hy', hf, g1, g2, rfl⟩
  · rw [concat_fin1 hzl] at hz; cases hz
  · have := h1.le _ _ hf g1
    rw [emb_fin (concat_emb a b) hy'] at hz
    have := h2.le _ _ hz g2
    omega
theorem concat_none (ha : Valid a) (hb : Valid b) (hb0 : b.start = 0) (hna : 1 ≤ a.states.length) (hnb : 1 ≤ b.states.length) (h : (∀ q k, finB a q = true → ¬ Way a 0 q k) ∨ (∀ q k, finB b q = true → ¬ Way b 0 q k)) {c : Nat} (h3 : Farthest (concatM a b) 0 c) : False := by
  obtain ⟨z, hz, wz⟩ := h3.has
  rcases concat_way_to ha hb hb0 hna hnb wz with ⟨hzl, -⟩ | ⟨y', p', ka, kb, rfl, hy', hf, g1, g2, rfl⟩
  · rw [concat_fin1 hzl] at hz; cases hz
  · rw [emb_fin (concat_emb a b) hy'] at hz
    rcases h with h | h
    · exact h _ _ hf g1
    · exact h _ _ hz g2
theorem concat_some (ha : Valid a) (hb : Valid b) (hb0 : b.start = 0) (hna : 1 ≤ a.states.length) (hnb : 1 ≤ b.states.length) {n k : Nat} (h1 : Farthest a 0 n) (h2 : Farthest b 0 k) (h3 : ∀ q k, finB (concatM a b) q = true → ¬ Way (concatM a b) 0 q k) : False := by
  obtain ⟨p, hp, wp⟩ := h1.has
  obtain ⟨y, hy, wy⟩ := h2.has
  exact h3 _ _ (by rw [emb_fin (concat_emb a b) (way_in hnb hb wy)]; exact hy) (concat_way2 ha hb hb0 hna hnb hp wp wy)
end
end Go.Proofs.Yteniblkmokpjjaa
