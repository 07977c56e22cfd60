/- Ways in a machine whose arcs lead forward (plain). -/
import Derived.Test.YteniblkmokpjjaaLongPlain
import Derived.Test.YteniblkmokpjjaaFwSmall
namespace Go.Proofs.Yteniblkmokpjjaa

theorem way_count {m : MachL} (hv : Valid m) {s : Nat} (hsn : s < m.states.length) {M : Nat → Nat} (hC : Counts m s M) {q k : Nat} (hw : Way m s q k) : q < m.states.length ∧ M q ≠ 0 := by
  induction hw with
  | zero => exact ⟨hsn, by rw [hC.one]; omega⟩
  | @step p q k hw hq ih =>
    have hqn := tos_lt hv hq
    refine ⟨hqn, ?_⟩
    rw [hC.eq q hqn]
    have h1 := nsum_ge ih.1 (fun p => M p * ad m p q)
    have h2 : ad m p q ≠ 0 := by
      unfold ad
      have := List.count_pos_iff.2 hq
      omega
    have h3 : M p * ad m p q ≠ 0 := Nat.mul_ne_zero ih.2 h2
    omega
theorem nsum_ne {n : Nat} {f : Nat → Nat} (h : nsum n f ≠ 0) : ∃ q, q < n ∧ f q ≠ 0 := by
  apply Classical.byContradiction
  intro hn
  exact h (nsum_zero_of fun q hq => Classical.byContradiction fun h0 => hn ⟨q, hq, h0⟩)
section
variable {m : MachL} {M : Nat → Nat}
theorem count_way (h : FwdSmall m) (hC : Counts m 0 M) : ∀ n q, q < n → q < m.states.length → M q ≠ 0 → ∃ k, Way m 0 q k := by
  intro n
  induction n with
  | zero => intro q hq; omega
  | succ n ih =>
    intro q hq hqn h0
    rw [hC.eq q hqn] at h0
    by_cases hz : q = 0
    · subst hz; exact ⟨0, Way.zero⟩
    · rw [if_neg hz, Nat.zero_add] at h0
      obtain ⟨p, hp, h1⟩ := nsum_ne h0
      have h2 : ad m p q ≠ 0 := fun e => h1 (by rw [e]; simp)
      have h3 : M p ≠ 0 := fun e => h1 (by rw [e]; simp)
      have := ad_fwd h h2
      obtain ⟨k, hk⟩ := ih p (by omega) hp h3
      exact ⟨k + 1, hk.step (ad_mem h2)⟩
theorem way_le (h : FwdSmall m) {q k : Nat} (hw : Way m 0 q k) : k ≤ q := by
  induction hw with
  | zero => exact Nat.le_refl _
  | step hw hq ih => have := fwd_tos h.f hq; omega
theorem fwd_none (h : FwdSmall m) (hC : Counts m 0 M) (hn : ∀ q k, finB m q = true → ¬ Way m 0 q k) : tot m M = 0 := by
  refine nsum_zero_of fun q hq => ?_
  split
  · rename_i hf
    apply Classical.byContradiction
    intro h0
    obtain ⟨k, hk⟩ := count_way h hC (q + 1) q (by omega) hq h0
    exact hn q k hf hk
  · rfl
theorem fwd_some (h : FwdSmall m) (hC : Counts m 0 M) {q k : Nat} (hf : finB m q = true) (hw : Way m 0 q k) : tot m M ≠ 0 := by
  obtain ⟨hqn, h0⟩ := way_count h.v h.n1 hC hw
  have := nsum_ge hqn (fun q => if finB m q = true then M q else 0)
  simp only [hf, if_true] at this
  unfold tot
  omega
theorem fwd_far (h : FwdSmall m) (hC : Counts m 0 M) {b : Nat} (hb : Farthest m 0 b) : tot m M ≠ 0 ∧ b < m.states.length ∧ (0 < b ∨ tot m M = 1) := by
  obtain ⟨q, hf, hw⟩ := hb.has
  have hqn := (way_count h.v h.n1 hC hw).1
  refine ⟨fwd_some h hC hf hw, by have := way_le h hw; omega, ?_⟩
  rcases Nat.eq_zero_or_pos b with h0 | h0
  · right
    subst h0
    cases hw with
    | zero =>
      unfold tot
      rw [nsum_congr (g := fun q => if q = 0 then 1 else 0) (fun q hq => ?_), nsum_at h.n1 (fun _ => 1)]
      by_cases hz : q = 0
      · subst hz; rw [if_pos hf, hC.one, if_pos rfl]
      · rw [if_neg hz]
        split
        · rename_i hf2
          apply Classical.byContradiction
          intro hm
          obtain ⟨k, hk⟩ := count_way h hC (q + 1) q (by omega) hq hm
          have := hb.le q k hf2 hk
          have hk0 : k = 0 := by omega
          subst hk0
          cases hk
          exact hz rfl
        · rfl
  · exact .inl h0
end
end Go.Proofs.Yteniblkmokpjjaa
