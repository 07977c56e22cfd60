/- The reversed machine costs the same (plain). -/
import Derived.Test.YtphoioejhdjbaaaAcc
import Derived.Test.YtphoioejhdjbaaaCostMade
import Derived.Test.YtphoioejhdjbaaaRevPlain
namespace Go.Proofs.Ytphoioejhdjbaaa

theorem step_rev {xs : List Int} {i : Nat} {lab : Int} (h : stepOk xs i lab = true) (hi : i ≤ xs.length) : stepOk xs.reverse (xs.length - stepAt i lab) lab = true ∧ stepAt (xs.length - stepAt i lab) lab = xs.length - i := by
  have h2 := stepAt_le h hi
  unfold stepOk stepAt at *
  split
  · exact ⟨rfl, rfl⟩
  · rename_i hl
    rw [if_neg hl] at h h2
    simp only [hitB, decide_eq_true_eq] at h ⊢
    have hlt := (List.getElem?_eq_some_iff.1 h).1
    refine ⟨?_, by omega⟩
    rw [List.getElem?_reverse (by omega)]
    rw [show xs.length - 1 - (xs.length - (i + 1)) = i by omega]
    exact h
theorem arcsP_rev {m : MachL} (hv : Valid m) {p : Pl} {a : ArcL} : a ∈ arcsP (revM m) p ↔ p.1 < m.states.length + 1 ∧ (p.1, a) ∈ revTo m.states m.states.length := by
  have hl := rev_len m
  by_cases h : p.1 < (revM m).states.length
  · have e : arcsP (revM m) p = (revM m).states[p.1].arcs := by unfold arcsP; rw [List.getElem?_eq_getElem h]; rfl
    rw [e, rev_mem hv p.1 h a]
    exact ⟨fun hh => ⟨by omega, hh⟩, fun hh => hh.2⟩
  · have e : arcsP (revM m) p = [] := by unfold arcsP; rw [List.getElem?_eq_none (by omega)]; rfl
    rw [e]
    exact ⟨fun hh => (by cases hh), fun hh => absurd hh.1 (by omega)⟩
theorem finalP_rev {m : MachL} (hv : Valid m) (p : Pl) : finalP (revM m) p = if 0 ≤ m.start ∧ m.start.toNat + 1 = p.1 then 0 else INF := by
  by_cases h : p.1 < m.states.length + 1
  · unfold finalP; rw [rev_final_at hv p.1 h]; rfl
  · unfold finalP
    rw [List.getElem?_eq_none (by rw [rev_len]; omega), if_neg (fun hh => by have := hv.s1; omega)]
    rfl
section
variable {m : MachL} {x y : List Int}
theorem rev_of_acc (hv : Valid m) {p : Pl} {c : Int} (h : Acc m x y false p c) (hr : Rng m.states.length x.length y.length p) : RW (revM m) x.reverse y.reverse false (p.1 + 1, x.length - p.2.1, y.length - p.2.2) c := by
  induction h with
  | @fin p he hf =>
    have hlt := hr.1
    have h0 : RW (revM m) x.reverse y.reverse false (0, 0, 0) 0 := RW.start (m := revM m) (Int.le_refl 0)
    have hfp : finalP m p = m.states[p.1].final := by unfold finalP; rw [List.getElem?_eq_getElem hr.1]; rfl
    have ha : (⟨0, 0, m.states[p.1].final, p.1 + 1⟩ : ArcL) ∈ arcsP (revM m) (0, 0, 0) := (arcsP_rev hv).2 ⟨by simp, (mem_revTo _ _ (Nat.le_refl _) _).2 ⟨p.1, hr.1, hr.1, .inl ⟨by rw [← hfp]; exact hf, rfl⟩⟩⟩
    have := h0.step (q := (p.1 + 1, 0, 0)) ha (by simp [nextP, stepOk, stepAt])
    unfold endsP at he
    simp only [Bool.false_or, Bool.and_eq_true, beq_iff_eq] at he
    rw [he.1, he.2, Nat.sub_self, Nat.sub_self, hfp]
    simpa using this
  | @arc p a q c ha hn _ ih =>
    have hq := nextP_rng hv hr ha hn
    have ih := ih hq
    obtain ⟨s, hs, hsm, has⟩ := arcsP_mem ha
    have hlt := hr.1
    have hva := (hv.st s hsm).2 a has
    have hse : m.states[p.1] = s := by rw [List.getElem?_eq_getElem hlt] at hs; exact Option.some.inj hs
    unfold nextP at hn
    simp only [Bool.false_or, Bool.false_eq_true, if_false] at hn
    split at hn
    · rename_i hh
      simp only [Bool.and_eq_true] at hh
      cases hn
      simp only at ih
      have k1 := step_rev hh.1 hr.2.1
      have k2 := step_rev hh.2 hr.2.2
      have har : (⟨a.inn, a.out, a.wt, p.1 + 1⟩ : ArcL) ∈ arcsP (revM m) (a.to.toNat + 1, x.length - stepAt p.2.1 a.inn, y.length - stepAt p.2.2 a.out) :=
        (arcsP_rev hv).2 ⟨by have := hva.t0; have := hva.t1; simp only; omega, (mem_revTo _ _ (Nat.le_refl _) _).2 ⟨p.1, hlt, hlt, .inr ⟨a, by rw [hse]; exact has, rfl⟩⟩⟩
      have := ih.step (q := (p.1 + 1, x.length - p.2.1, y.length - p.2.2)) har (by
        unfold nextP
        simp only [Bool.false_or, Bool.false_eq_true, if_false]
        rw [if_pos (by rw [k1.1, k2.1]; rfl), k1.2, k2.2]
        simp)
      rw [Int.add_comm]
      exact this
    · cases hn
theorem acc_of_rev (hv : Valid m) {p : Pl} {c : Int} (h : RW (revM m) x.reverse y.reverse false p c) : (p = (0, 0, 0) ∧ c = 0) ∨ ∃ q, p.1 = q + 1 ∧ q < m.states.length ∧ p.2.1 ≤ x.length ∧ p.2.2 ≤ y.length ∧ Acc m x y false (q, x.length - p.2.1, y.length - p.2.2) c := by
  induction h with
  | start h0 => exact .inl ⟨rfl, rfl⟩
  | @step p c a z _ ha hn ih =>
    right
    obtain ⟨hp1, hmem⟩ := (arcsP_rev hv).1 ha
    obtain ⟨q, hq, hq2, h⟩ := (mem_revTo _ _ (Nat.le_refl _) _).1 hmem
    rcases h with ⟨hf, he⟩ | ⟨b, hb, he⟩
    · injection he with he1 he2
      subst he2
      rcases ih with ⟨rfl, rfl⟩ | ⟨q', hq', _⟩
      · simp [nextP, stepOk, stepAt] at hn
        subst hn
        have hfp : finalP m (q, x.length, y.length) = m.states[q].final := by unfold finalP; rw [List.getElem?_eq_getElem hq2]; rfl
        refine ⟨q, ?_, hq2, by simp, by simp, ?_⟩
        · simp
        · have := Acc.fin (m := m) (x := x) (y := y) (any := false) (p := (q, x.length, y.length)) (by simp [endsP]) (by rw [hfp]; exact hf)
          rw [hfp] at this
          simpa using this
      · omega
    · injection he with he1 he2
      subst he2
      rcases ih with ⟨rfl, rfl⟩ | ⟨q', hq', hq'l, hi, hj, hacc⟩
      · simp at he1
      · have hqb : q' = b.to.toNat := by omega
        subst hqb
        unfold nextP at hn
        simp only [Bool.false_or, Bool.false_eq_true, if_false] at hn
        split at hn
        · rename_i hh
          simp only [Bool.and_eq_true] at hh
          have k1 := step_rev hh.1 (by simpa using hi)
          have k2 := step_rev hh.2 (by simpa using hj)
          have m1 := stepAt_le hh.1 (by simpa using hi)
          have m2 := stepAt_le hh.2 (by simpa using hj)
          rw [List.reverse_reverse, List.length_reverse] at k1 k2
          rw [List.length_reverse] at m1 m2
          cases hn
          refine ⟨q, by simp, hq2, m1, m2, ?_⟩
          simp only
          rw [Int.add_comm]
          refine Acc.arc (a := b) (q := (b.to.toNat, x.length - p.2.1, y.length - p.2.2)) ?_ ?_ hacc
          · unfold arcsP; rw [List.getElem?_eq_getElem hq2]; exact hb
          · unfold nextP
            simp only [Bool.false_or, Bool.false_eq_true, if_false]
            rw [if_pos (by rw [k1.1, k2.1]; rfl), k1.2, k2.2]
        · cases hn
theorem rev_tot (hv : Valid m) (c : Int) : Tot (revM m) x.reverse y.reverse false c ↔ Tot m x y false c := by
  have hi : INF = 1000000001 := rfl
  rw [tot_acc (m := m)]
  constructor
  · rintro ⟨p, d, hr, he, hf, rfl⟩
    rw [finalP_rev hv] at *
    split at hf
    · rename_i h0
      rw [if_pos h0, Int.add_zero]
      rcases acc_of_rev hv hr with ⟨rfl, _⟩ | ⟨q, hq, _, _, _, hacc⟩
      · simp at h0
      · unfold endsP at he
        simp only [Bool.false_or, Bool.and_eq_true, beq_iff_eq, List.length_reverse] at he
        rw [he.1, he.2, Nat.sub_self, Nat.sub_self] at hacc
        have : q = m.start.toNat := by omega
        subst this
        exact ⟨h0.1, hacc⟩
    · exact absurd rfl hf
  · rintro ⟨h0, h⟩
    have hs1 := hv.s1
    have := rev_of_acc hv h ⟨by simp only; omega, by simp, by simp⟩
    have hf : finalP (revM m) (m.start.toNat + 1, x.length, y.length) = 0 := by rw [finalP_rev hv, if_pos ⟨h0, rfl⟩]
    refine ⟨_, c, this, by simp [endsP], ?_, ?_⟩
    · simp only [Nat.sub_zero]; rw [hf]; omega
    · simp only [Nat.sub_zero]; rw [hf]; omega
end
theorem rev_little {m : MachL} (hv : Valid m) {n AA : Nat} (h : Little m n AA) (hn : arcsOf m.states + m.states.length ≤ 100) : Little (revM m) (n + 1) 100 := by
  have hl := rev_len m
  have hst : ∀ s ∈ (revM m).states, ∀ a ∈ s.arcs, ∃ x, (x, a) ∈ revTo m.states m.states.length := fun s hs a ha => by
    obtain ⟨x, hx, rfl⟩ := List.getElem_of_mem hs
    exact ⟨x, (rev_mem hv x hx a).1 ha⟩
  refine ⟨by have := h.len; omega, fun s hs a ha => ?_, fun s hs hne => ?_, fun s hs => ?_⟩
  · obtain ⟨x, hx⟩ := hst s hs a ha
    obtain ⟨q, hq, hq2, hh⟩ := (mem_revTo _ _ (Nat.le_refl _) _).1 hx
    rcases hh with ⟨hf, he⟩ | ⟨b, hb, he⟩
    · injection he with _ he; subst he
      exact h.fin _ (List.getElem_mem hq2) hf
    · injection he with _ he; subst he
      exact h.wt _ (List.getElem_mem hq2) b hb
  · rcases rev_final hv s hs with h1 | h1
    · rw [h1]; omega
    · exact absurd h1 hne
  · obtain ⟨x, hx, rfl⟩ := List.getElem_of_mem hs
    rw [rev_arcs hv x hx, List.length_map]
    have h1 := List.length_filter_le (fun y : Nat × ArcL => decide (y.1 = x)) (revTo m.states m.states.length)
    have h2 := revTo_len m.states m.states.length (Nat.le_refl _)
    rw [List.take_length] at h2
    omega
end Go.Proofs.Ytphoioejhdjbaaa
