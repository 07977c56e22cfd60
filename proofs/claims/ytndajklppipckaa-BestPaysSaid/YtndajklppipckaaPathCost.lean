/- What a path reads and writes, and what these words cost (plain). -/
import Derived.Test.YtndajklppipckaaBestPath
import Derived.Test.YtndajklppipckaaAcc
namespace Go.Proofs.Ytndajklppipckaa

theorem accW_tw {m : MachL} {q : Nat} {x y : List Int} {c : Int} (h : AccW m q x y c) : ∃ B, Tw m q c B := by
  induction h with
  | fin hs hf => exact ⟨0, Tw.fin hs hf⟩
  | arc hs ha _ ih =>
    obtain ⟨B, hB⟩ := ih
    exact ⟨_, Tw.arc hs ha hB⟩
theorem fold_accW {m : MachL} {x' y' : List Int} {c' : Int} : ∀ (l : List Int) (s0 s1 : Trail), l.foldl (tstep m) (some s0) = some s1 → AccW m s1.q x' y' c' →
    ∃ xm ym, s1.x = s0.x ++ xm ∧ s1.y = s0.y ++ ym ∧ AccW m s0.q (xm ++ x') (ym ++ y') (s1.c - s0.c + c') := by
  intro l
  induction l with
  | nil =>
    intro s0 s1 h ha
    cases h
    exact ⟨[], [], by simp, by simp, by simpa using ha⟩
  | cons i l ih =>
    intro s0 s1 h ha
    simp only [List.foldl_cons] at h
    cases hs : tstep m (some s0) i with
    | none => rw [hs, tfold_none] at h; cases h
    | some s2 =>
      rw [hs] at h
      obtain ⟨xm, ym, e1, e2, h2⟩ := ih s2 s1 h ha
      unfold tstep at hs
      cases hst : m.states[s0.q]? with
      | none => simp only [hst] at hs; cases hs
      | some t =>
        simp only [hst] at hs
        by_cases h0 : 0 ≤ i
        · rw [if_pos h0] at hs
          cases ha : t.arcs[i.toNat]? with
          | none => simp only [ha] at hs; cases hs
          | some a =>
            simp only [ha] at hs
            cases hs
            have h3 := AccW.arc hst (List.mem_of_getElem? ha) h2
            refine ⟨pre1 a.inn ++ xm, pre1 a.out ++ ym, by rw [e1]; simp, by rw [e2]; simp, ?_⟩
            have e3 : a.wt + (s1.c - (s0.c + a.wt) + c') = s1.c - s0.c + c' := by omega
            simp only [e3] at h3
            rw [List.append_assoc, List.append_assoc]
            exact h3
        · rw [if_neg h0] at hs; cases hs
theorem trun_accW {m : MachL} {s : Nat} {l : List Int} {t : Trail} {z : StateL} (h : trun m s l = some t) (hz : m.states[t.q]? = some z) (hf : z.final ≠ 1000000001) : AccW m s t.x t.y (t.c + z.final) := by
  obtain ⟨xm, ym, e1, e2, h3⟩ := fold_accW l _ _ h (AccW.fin hz hf)
  simp only [List.nil_append, List.append_nil] at e1 e2 h3
  rw [e1, e2]
  have e : t.c - 0 + z.final = t.c + z.final := by omega
  rwa [e] at h3
theorem accW_lab {m : MachL} (hv : Valid m) {q : Nat} {x y : List Int} {c : Int} (h : AccW m q x y c) : (∀ a ∈ x, 1 ≤ a ∧ a ≤ 1000) ∧ ∀ a ∈ y, 1 ≤ a ∧ a ≤ 1000 := by
  induction h with
  | fin => exact ⟨fun a ha => (by cases ha), fun a ha => (by cases ha)⟩
  | @arc q s a x y c hs ha _ ih =>
    have hva := (hv.st _ (List.mem_of_getElem? hs)).2 a ha
    have k1 := hva.i0; have k2 := hva.i1; have k3 := hva.o0; have k4 := hva.o1
    have key : ∀ lab : Int, 0 ≤ lab → lab ≤ 1000 → ∀ b ∈ pre lab, 1 ≤ b ∧ b ≤ 1000 := fun lab h1 h2 b hb => by
      unfold pre at hb
      split at hb
      · cases hb
      · simp at hb; omega
    refine ⟨fun b hb => ?_, fun b hb => ?_⟩ <;> rcases List.mem_append.1 hb with hb | hb
    · exact key _ k1 k2 b hb
    · exact ih.1 b hb
    · exact key _ k3 k4 b hb
    · exact ih.2 b hb
/-- the words of a cheapest path cost what it costs -/
theorem best_words {m : MachL} (h0 : 0 ≤ m.start) {x y : List Int} {D c : Int} (ha : AccW m m.start.toNat x y D) (hmin : ∀ A B, Tw m m.start.toNat A B → D ≤ A) (hB : Best (Tot m x y false) c) : c = D := by
  have h1 : Tot m x y false D := tot_accW.2 ⟨h0, ha⟩
  rcases hB with ⟨-, h2⟩ | ⟨h2, h3, -⟩
  · exact absurd h1 (h2 _)
  · have h4 := h3 _ h1
    obtain ⟨B, hB⟩ := accW_tw (tot_accW.1 h2).2
    have := hmin _ _ hB
    omega
/-- the least is what the best path costs -/
theorem best_D {m : MachL} (hv : Valid m) {s : Nat} {D D' B : Int} (ht : Tw m s D B) (hmin : ∀ A B, Tw m s A B → D ≤ A)
    (hD : (D' = 1000000001 ∧ ∀ c, ¬ Way (endsFirst m) (endsE m) s c) ∨ (0 ≤ D' ∧ D' ≤ 100000000 ∧ Way (endsFirst m) (endsE m) s D' ∧ ∀ c, Way (endsFirst m) (endsE m) s c → D' ≤ c)) : D' = D ∧ D' ≤ 100000000 := by
  have hw := tw_way hv ht
  rcases hD with h | ⟨h1, h2, h3, h4⟩
  · exact absurd hw (h.2 _)
  · obtain ⟨B', hB'⟩ := way_tw hv h3
    have := hmin _ _ hB'
    have := h4 _ hw
    omega
end Go.Proofs.Ytndajklppipckaa
