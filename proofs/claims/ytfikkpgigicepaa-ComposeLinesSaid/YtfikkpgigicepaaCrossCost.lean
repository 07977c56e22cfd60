/- What a cross costs (plain). -/
import Derived.Test.YtfikkpgigicepaaCross
import Derived.Test.YtfikkpgigicepaaCostMade
namespace Go.Proofs.Ytfikkpgigicepaa

section
variable {x y : List Int}
theorem cross_len (x y : List Int) : (crossM x y).states.length = crossN x y + 1 := by simp [crossM]
theorem cross_get (x y : List Int) (k : Nat) (hk : k < crossN x y) : (crossM x y).states[k]? = some (crossS x y k) := by
  simp [crossM, List.getElem?_append_left, hk]
theorem cross_last (x y : List Int) : (crossM x y).states[crossN x y]? = some ⟨0, []⟩ := by
  simp [crossM]
theorem getD_b {x : List Int} (hx : ∀ a ∈ x, 1 ≤ a ∧ a ≤ 1000) (k : Nat) : 0 ≤ x.getD k 0 ∧ x.getD k 0 ≤ 1000 ∧ (x.getD k 0 = 0 ↔ x.length ≤ k) := by
  rw [List.getD_eq_getElem?_getD]
  by_cases h : k < x.length
  · rw [List.getElem?_eq_getElem h]
    have := hx _ (List.getElem_mem h)
    simp only [Option.getD_some]; omega
  · rw [List.getElem?_eq_none (by omega)]
    exact ⟨by simp, by simp, by simp; omega⟩
theorem cross_mem {s : StateL} (h : s ∈ (crossM x y).states) : (∃ k, k < crossN x y ∧ s = crossS x y k) ∨ s = ⟨0, []⟩ := by
  unfold crossM at h
  rcases List.mem_append.1 h with h | h
  · obtain ⟨k, hk, rfl⟩ := List.mem_map.1 h
    exact .inl ⟨k, List.mem_range.1 hk, rfl⟩
  · simp at h; exact .inr h
theorem cross_valid (hx : ∀ a ∈ x, 1 ≤ a ∧ a ≤ 1000) (hy : ∀ a ∈ y, 1 ≤ a ∧ a ≤ 1000) (hn : crossN x y ≤ 12) : Valid (crossM x y) := by
  have hl := cross_len x y
  refine ⟨by omega, ?_, by simp [crossM], by rw [hl]; simp [crossM], fun s hs => ?_⟩
  · have key : ∀ l : List StateL, (∀ s ∈ l, s.arcs.length ≤ 1) → arcsOf l ≤ l.length := by
      intro l
      induction l with
      | nil => intro _; simp [arcsOf]
      | cons s l ih =>
        intro h
        have h1 := h s (by simp)
        have h2 := ih (fun z hz => h z (by simp [hz]))
        unfold arcsOf at *
        simp only [List.map_cons, List.sum_cons, List.length_cons]; omega
    have := key (crossM x y).states (fun s hs => by rcases cross_mem hs with ⟨k, _, rfl⟩ | rfl <;> simp [crossS])
    omega
  · rw [hl]
    rcases cross_mem hs with ⟨k, hk, rfl⟩ | rfl
    · refine ⟨.inr rfl, fun a ha => ?_⟩
      simp [crossS] at ha; subst ha
      have h1 := getD_b hx k; have h2 := getD_b hy k
      simp only [List.getD_eq_getElem?_getD] at h1 h2
      exact ⟨h1.1, h1.2.1, h2.1, h2.2.1, by simp, by simp, by simp; omega, by simp; omega⟩
    · exact ⟨.inl ⟨by simp, by simp⟩, fun a ha => by cases ha⟩
theorem cross_little (hn : crossN x y ≤ 5) : Little (crossM x y) 6 1 := by
  refine ⟨by rw [cross_len]; omega, fun s hs a ha => ?_, fun s hs hne => ?_, fun s hs => ?_⟩ <;> rcases cross_mem hs with ⟨k, _, rfl⟩ | rfl
  · simp [crossS] at ha; subst ha; simp
  · cases ha
  · exact absurd rfl hne
  · simp
  · simp [crossS]
  · simp
theorem arcsP_cross {p : Pl} {a : ArcL} (h : a ∈ arcsP (crossM x y) p) : p.1 < crossN x y ∧ a = ⟨x.getD p.1 0, y.getD p.1 0, 0, p.1 + 1⟩ := by
  unfold arcsP at h
  by_cases hp : p.1 < crossN x y
  · rw [cross_get x y _ hp] at h
    simp [crossS] at h
    exact ⟨hp, by rw [h]; simp⟩
  · by_cases e : p.1 = crossN x y
    · rw [e, cross_last] at h; simp at h
    · rw [List.getElem?_eq_none (by rw [cross_len]; omega)] at h; simp at h
theorem step_cross {x u : List Int} (hx : ∀ a ∈ x, 1 ≤ a ∧ a ≤ 1000) {k : Nat} (hp : u.take (min k x.length) = x.take (min k x.length)) (h : stepOk u (min k x.length) (x.getD k 0) = true) :
    stepAt (min k x.length) (x.getD k 0) = min (k + 1) x.length ∧ u.take (min (k + 1) x.length) = x.take (min (k + 1) x.length) := by
  have hb := getD_b hx k
  unfold stepOk stepAt at *
  by_cases hk : k < x.length
  · rw [if_neg (by omega)] at h ⊢
    simp only [hitB, decide_eq_true_eq] at h
    rw [Nat.min_eq_left (by omega)] at h hp ⊢
    rw [Nat.min_eq_left (by omega)]
    refine ⟨rfl, ?_⟩
    have hu := (List.getElem?_eq_some_iff.1 h)
    obtain ⟨hu1, hu2⟩ := hu
    rw [List.take_succ_eq_append_getElem hu1, List.take_succ_eq_append_getElem hk, hp, hu2]
    simp [hk]
  · rw [if_pos (by omega)]
    rw [Nat.min_eq_right (by omega)] at hp ⊢
    rw [Nat.min_eq_right (by omega)]
    exact ⟨rfl, hp⟩
theorem cross_rw {u v : List Int} (hx : ∀ a ∈ x, 1 ≤ a ∧ a ≤ 1000) (hy : ∀ a ∈ y, 1 ≤ a ∧ a ≤ 1000) {p : Pl} {c : Int} (h : RW (crossM x y) u v false p c) :
    c = 0 ∧ p.1 ≤ crossN x y ∧ p.2.1 = min p.1 x.length ∧ p.2.2 = min p.1 y.length ∧ u.take (min p.1 x.length) = x.take (min p.1 x.length) ∧ v.take (min p.1 y.length) = y.take (min p.1 y.length) := by
  induction h with
  | start h0 => simp [crossM]
  | @step p c a q _ ha hn ih =>
    obtain ⟨rfl, h1, h2, h3, h4, h5⟩ := ih
    obtain ⟨hk, rfl⟩ := arcsP_cross ha
    unfold nextP at hn
    simp only [Bool.false_or, Bool.false_eq_true, if_false] at hn
    split at hn
    · rename_i hh
      simp only [Bool.and_eq_true] at hh
      rw [h2, h3] at hh
      cases hn
      have e1 : ((p.1 : Int) + 1).toNat = p.1 + 1 := by omega
      have k1 := step_cross hx h4 hh.1
      have k2 := step_cross hy h5 hh.2
      simp only [e1, h2, h3]
      exact ⟨rfl, by omega, k1.1, k2.1, k1.2, k2.2⟩
    · cases hn
theorem step_self {x : List Int} (hx : ∀ a ∈ x, 1 ≤ a ∧ a ≤ 1000) (k : Nat) : stepOk x (min k x.length) (x.getD k 0) = true ∧ stepAt (min k x.length) (x.getD k 0) = min (k + 1) x.length := by
  have hb := getD_b hx k
  unfold stepOk stepAt
  by_cases hk : k < x.length
  · rw [if_neg (by omega), if_neg (by omega), Nat.min_eq_left (by omega), Nat.min_eq_left (by omega)]
    refine ⟨?_, rfl⟩
    simp [hitB, hk]
  · rw [if_pos (by omega), if_pos (by omega), Nat.min_eq_right (by omega), Nat.min_eq_right (by omega)]
    exact ⟨rfl, rfl⟩
theorem cross_way (hx : ∀ a ∈ x, 1 ≤ a ∧ a ≤ 1000) (hy : ∀ a ∈ y, 1 ≤ a ∧ a ≤ 1000) (k : Nat) (hk : k ≤ crossN x y) : RW (crossM x y) x y false (k, min k x.length, min k y.length) 0 := by
  induction k with
  | zero =>
    have := RW.start (m := crossM x y) (x := x) (y := y) (any := false) (by simp [crossM])
    simpa [crossM] using this
  | succ k ih =>
    have ih := ih (by omega)
    have ha : (⟨x.getD k 0, y.getD k 0, 0, k + 1⟩ : ArcL) ∈ arcsP (crossM x y) (k, min k x.length, min k y.length) := by
      unfold arcsP; rw [cross_get x y k (by omega)]; simp [crossS]
    have h1 := step_self hx k; have h2 := step_self hy k
    have e1 : ((k : Int) + 1).toNat = k + 1 := by omega
    have := ih.step (q := (k + 1, min (k + 1) x.length, min (k + 1) y.length)) ha (by
      unfold nextP
      simp only [Bool.false_or, Bool.false_eq_true, if_false]
      rw [h1.1, h2.1, h1.2, h2.2, e1]; rfl)
    simpa using this
theorem cross_tot (hx : ∀ a ∈ x, 1 ≤ a ∧ a ≤ 1000) (hy : ∀ a ∈ y, 1 ≤ a ∧ a ≤ 1000) (u v : List Int) (c : Int) : Tot (crossM x y) u v false c ↔ x = u ∧ y = v ∧ c = 0 := by
  have hfin : ∀ p : Pl, finalP (crossM x y) p ≠ INF → p.1 = crossN x y ∧ finalP (crossM x y) p = 0 := by
    intro p hne
    unfold finalP at *
    by_cases hp : p.1 < crossN x y
    · rw [cross_get x y _ hp] at hne; exact absurd rfl hne
    · by_cases e : p.1 = crossN x y
      · rw [e, cross_last]; exact ⟨rfl, rfl⟩
      · rw [List.getElem?_eq_none (by rw [cross_len]; omega)] at hne; exact absurd rfl hne
  constructor
  · rintro ⟨p, d, hr, he, hf, rfl⟩
    obtain ⟨hp, hf0⟩ := hfin p hf
    obtain ⟨rfl, h1, h2, h3, h4, h5⟩ := cross_rw hx hy hr
    unfold endsP at he
    simp only [Bool.false_or, Bool.and_eq_true, beq_iff_eq] at he
    have a1 : min p.1 x.length = x.length := by rw [hp]; unfold crossN; omega
    have a2 : min p.1 y.length = y.length := by rw [hp]; unfold crossN; omega
    rw [a1] at h2 h4; rw [a2] at h3 h5
    rw [List.take_length, List.take_of_length_le (by omega)] at h4 h5
    exact ⟨h4.symm, h5.symm, by omega⟩
  · rintro ⟨rfl, rfl, rfl⟩
    have hw := cross_way hx hy (crossN x y) (Nat.le_refl _)
    have a1 : min (crossN x y) x.length = x.length := by unfold crossN; omega
    have a2 : min (crossN x y) y.length = y.length := by unfold crossN; omega
    have hf : finalP (crossM x y) (crossN x y, x.length, y.length) = 0 := by unfold finalP; simp only; rw [cross_last]; rfl
    rw [a1, a2] at hw
    exact ⟨_, 0, hw, by simp [endsP], by rw [hf]; decide, by rw [hf]; rfl⟩
end
end Go.Proofs.Ytfikkpgigicepaa
