/- What the cheapest whole ways cost, and how far an end is (plain). -/
import Derived.Test.YtndajklppipckaaCostsPlain
namespace Go.Proofs.Ytndajklppipckaa

section
variable {m : MachL}
theorem whole_way (hv : Valid m) (s : Nat) : ∀ (e : List Nat) (q : Nat) (c : Int), pw m s e = some (q, c) → ∀ d, Way (endsFirst m) (endsE m) q d → Way (endsFirst m) (endsE m) s (c + d) := by
  intro e
  induction e with
  | nil => intro q c h d hd; cases h; rw [Int.zero_add]; exact hd
  | cons i e ih =>
    intro q c h d hd
    cases he : pw m s e with
    | none => rw [pw_cons_none he] at h; cases h
    | some y =>
      rw [pw_cons (q := y.1) (c := y.2) he] at h
      cases ha : (arcsAt m y.1)[i]? with
      | none => rw [ha] at h; cases h
      | some a =>
        rw [ha] at h
        cases h
        obtain ⟨hq, h2⟩ := arcsAt_lt (List.mem_of_getElem? ha)
        have h3 := ih y.1 y.2 he _ (ends_step hv h2 hd)
        rw [show y.2 + a.wt + d = y.2 + (d + a.wt) by omega]
        exact h3
theorem way_of_whole (hv : Valid m) {s : Nat} {p : List Nat} (h : Whole m s p) : Way (endsFirst m) (endsE m) s (wcost m s p) := by
  obtain ⟨h1, h2⟩ := h
  obtain ⟨x, hx⟩ := Option.isSome_iff_exists.1 h1
  have hq := finI_lt h2
  unfold wcost
  rw [(pq_of hx).1, (pq_of hx).2] at *
  rw [finI_of hq] at h2 ⊢
  exact whole_way hv s p x.1 x.2 hx _ (ends_start hq h2)
theorem whole_of_way (hv : Valid m) {s : Nat} {c : Int} (h : Way (endsFirst m) (endsE m) s c) : ∃ p, Whole m s p ∧ wcost m s p = c := by
  induction h with
  | @start q hq hw =>
    have hq' : q < m.states.length := by simpa [endsFirst] using hq
    refine ⟨[], ⟨rfl, ?_⟩, ?_⟩
    · show finI m q ≠ _
      rw [finI_of hq']; simpa [endsFirst, gE] using hw
    · show 0 + finI m q = _
      rw [finI_of hq']; simp [endsFirst, gE]
  | @step p q c' w h he ih =>
    obtain ⟨p0, h1, h2⟩ := ih
    obtain ⟨p', hp, a, ha, e⟩ := (Ends_mem hv _ _).1 he
    unfold fE at e
    injection e with e1 e2
    injection e2 with e2 e3
    subst e1; subst e2; subst e3
    obtain ⟨i, hi, hia⟩ := List.getElem_of_mem ha
    have hga : (arcsAt m p')[i]? = some a := by rw [arcsAt_of hp, List.getElem?_eq_getElem hi, hia]
    have h0 : pw m p' [i] = some (a.to.toNat, a.wt) := by
      rw [pw_cons (m := m) (s := p') (p := []) (q := p') (c := 0) rfl, hga]; simp
    obtain ⟨x, hx⟩ := Option.isSome_iff_exists.1 h1.1
    have h3 : pw m p' (p0 ++ [i]) = some (x.1, a.wt + x.2) := by
      rw [pw_app, h0]; simp [hx]
    have h4 := h1.2
    rw [(pq_of hx).1] at h4
    have hc : wcost m a.to.toNat p0 = x.2 + finI m x.1 := by unfold wcost; rw [(pq_of hx).1, (pq_of hx).2]
    refine ⟨p0 ++ [i], ⟨by rw [h3]; rfl, by rw [(pq_of h3).1]; exact h4⟩, ?_⟩
    unfold wcost
    rw [(pq_of h3).1, (pq_of h3).2]
    simp only
    rw [hc] at h2
    omega
/-- the first of the cheapest is the cheapest path -/
theorem cheap_dist (hv : Valid m) {s n : Nat} {d : Int} {ps : List (List Nat)} (h : Cheap (Whole m s) (wcost m s) n ps) (hn : 0 < n) (hd : IsDist (endsFirst m) (endsE m) s d) : (d = 1000000001 ∧ ps = []) ∨ (d ≠ 1000000001 ∧ ∃ p qs, ps = p :: qs ∧ wcost m s p = d) := by
  rcases hd with ⟨h1, h2⟩ | ⟨h1, h2, h3, h4⟩
  · left
    refine ⟨h1, ?_⟩
    cases ps with
    | nil => rfl
    | cons p qs => exact absurd (way_of_whole hv (h.all p (by simp))) (h2 _)
  · right
    refine ⟨by omega, ?_⟩
    obtain ⟨p0, g1, g2⟩ := whole_of_way hv h3
    cases ps with
    | nil =>
      rcases h.told p0 g1 with g | ⟨g, -⟩
      · cases g
      · simp at g; omega
    | cons p qs =>
      refine ⟨p, qs, rfl, ?_⟩
      have g3 := h4 _ (way_of_whole hv (h.all p (by simp)))
      have g4 : wcost m s p ≤ wcost m s p0 := by
        rcases h.told p0 g1 with g | ⟨-, g⟩
        · rcases List.mem_cons.1 g with rfl | g
          · exact Int.le_refl _
          · exact (List.pairwise_cons.1 h.srt).1 _ g
        · exact g p (by simp)
      omega
end
section
variable {M : MachL}
/-- ways that begin with an arc -/
theorem whole_snoc {s q i : Nat} {c : Int} (h : pw M s [i] = some (q, c)) (p : List Nat) : (Whole M s (p ++ [i]) ↔ Whole M q p) ∧ (Whole M q p → wcost M s (p ++ [i]) = c + wcost M q p) := by
  have hp := pw_app (m := M) (s := s) [i] p
  rw [h] at hp
  simp only [Option.bind_some] at hp
  cases hx : pw M q p with
  | none =>
    rw [hx] at hp
    unfold Whole
    rw [hx, hp]
    simp
  | some x =>
    rw [hx] at hp
    simp only [Option.map_some] at hp
    have e1 := pq_of hx; have e2 := pq_of hp
    unfold Whole wcost
    rw [e1.1, e1.2, e2.1, e2.2, hx, hp]
    simp [Int.add_assoc]
end
/-- of fewer ways they are the first ones -/
theorem Cheap.rise {α : Type} {W : α → Prop} {c : α → Int} {n : Nat} {ps qs : List α} (h : Cheap W c n ps) (h' : Cheap W c (n + 1) qs) : ps.map c = (qs.map c).take n := by
  rw [← List.map_take]
  exact h.one (h'.take (Nat.le_succ n))
theorem Cheap.sorted {α : Type} {W : α → Prop} {c : α → Int} {n : Nat} {ps : List α} (h : Cheap W c n ps) (i : Nat) (hi : i + 1 < (ps.map c).length) : (ps.map c)[i]'(by omega) ≤ (ps.map c)[i + 1] := by
  simp only [List.getElem_map]
  exact sorted_at h.srt (by simp at hi; omega) (by simpa using hi) (by omega)
end Go.Proofs.Ytndajklppipckaa
