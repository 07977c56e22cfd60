/- A trimmed star leads round just where there are paths (plain). -/
import Derived.Test.YteniblkmokpjjaaAddPlain
import Derived.Test.YteniblkmokpjjaaStarGet
import Derived.Test.YteniblkmokpjjaaTrimLaw
namespace Go.Proofs.Yteniblkmokpjjaa

theorem tos_ahead (m : MachL) (q : Nat) : tos m q = aheadOf m.states q := by
  unfold tos aheadOf
  cases m.states[q]? <;> rfl
/-- an order, and nothing leads round -/
theorem IsTopo.not_stuck {m : MachL} {out : List Nat} (h : IsTopo m out) (S : Nat → Prop) : ¬ Stuck m S := by
  rintro ⟨⟨q, hq⟩, hs⟩
  have key : ∀ n q, out.idxOf q < n → ¬ S q := by
    intro n
    induction n with
    | zero => intro q hq; omega
    | succ n ih =>
      intro q hq hS
      obtain ⟨hl, p, hp, ht⟩ := hs q hS
      have := h.idx hl ht
      exact ih p (by omega) hp
  exact key (out.idxOf q + 1) q (by omega) hq
theorem Way.cons {m : MachL} {p y z k : Nat} (h : y ∈ tos m p) (hw : Way m y z k) : Way m p z (k + 1) := by
  induction hw with
  | zero => exact Way.zero.step h
  | step _ hq ih => exact ih.step hq
theorem Way.trans {m : MachL} {p y z k l : Nat} (h : Way m p y k) (hw : Way m y z l) : Way m p z (k + l) := by
  induction hw with
  | zero => exact h
  | step _ hq ih => exact ih.step hq
section
variable {a : MachL}
theorem star_tos0 (ha0 : a.start = 0) : tos (starM a) 0 = [1] := by
  rw [tos_get (star_get0 a)]
  unfold hopL
  rw [ha0, if_pos (by omega)]; rfl
theorem star_tos1 (ha : Valid a) {q : Nat} (hq : q < a.states.length) : tos (starM a) (1 + q) = (tos a q).map (fun t => 1 + t) ++ if finB a q = true then [0] else [] := by
  have hg := List.getElem?_eq_getElem hq
  have h1 := star_get1 a q hq
  rw [hg] at h1
  rw [tos_get h1, tos_get hg, finB_get hg]
  have e1 : (movS 1 a.states[q]).final = a.states[q].final := rfl
  have e2 := tos_mov (d := 1) (hv := (ha.st _ (List.getElem_mem hq)).2)
  simp only [looseS, List.map_append, e1]
  congr 1
  by_cases hf : a.states[q].final = 1000000001
  · rw [if_pos (.inl hf), if_neg (by simp [hf])]; rfl
  · rw [if_neg (by omega), if_pos (by simpa using hf)]; rfl
theorem star_fin0 : finB (starM a) 0 = true := by rw [finB_get (star_get0 a)]; rfl
theorem star_fin1 {q : Nat} (hq : q < a.states.length) : finB (starM a) (1 + q) = false := by
  have h1 := star_get1 a q hq
  rw [List.getElem?_eq_getElem hq] at h1
  rw [finB_get h1]; rfl
theorem star_RA0 : RA (starM a) 0 := Reach.start (by simp [startOf, starM])
theorem star_RA (ha : FwdSmall a) {q k : Nat} (hw : Way a 0 q k) : RA (starM a) (1 + q) := by
  induction hw with
  | zero => exact star_RA0.step (by rw [← tos_ahead, star_tos0 ha.s0]; simp)
  | @step p q k hw hq ih =>
    refine ih.step ?_
    rw [← tos_ahead, star_tos1 ha.v (way_in ha.n1 ha.v hw)]
    exact List.mem_append_left _ (List.mem_map.2 ⟨q, hq, rfl⟩)
theorem star_RB0 : RB (starM a) 0 := by
  refine Reach.start ((mem_endsOf _ _).2 ?_)
  obtain ⟨h, e⟩ := List.getElem?_eq_some_iff.1 (star_get0 a)
  refine ⟨h, ?_⟩
  rw [e]; simp
theorem star_RA_to (ha : FwdSmall a) {x : Nat} (h : RA (starM a) x) : x = 0 ∨ ∃ y k, x = 1 + y ∧ Way a 0 y k := by
  induction h with
  | start hq => left; simpa [startOf, starM] using hq
  | @step q p _ hp ih =>
    rw [← tos_ahead] at hp
    rcases ih with rfl | ⟨y, k, rfl, hw⟩
    · rw [star_tos0 ha.s0] at hp
      simp at hp
      exact .inr ⟨0, 0, by omega, Way.zero⟩
    · rw [star_tos1 ha.v (way_in ha.n1 ha.v hw)] at hp
      rcases List.mem_append.1 hp with hp | hp
      · obtain ⟨t, ht, rfl⟩ := List.mem_map.1 hp
        exact .inr ⟨t, k + 1, rfl, hw.step ht⟩
      · split at hp
        · simp at hp; exact .inl hp
        · cases hp
theorem star_RB_to (ha : FwdSmall a) (hs : Valid (starM a)) {x : Nat} (h : RB (starM a) x) : x = 0 ∨ ∃ y z k, x = 1 + y ∧ y < a.states.length ∧ finB a z = true ∧ Way a y z k := by
  have key : ∀ {x : Nat}, RB (starM a) x → x < (starM a).states.length := fun h => RB_lt hs h
  induction h with
  | @start q hq =>
    left
    obtain ⟨hl, hf⟩ := (mem_endsOf _ _).1 hq
    apply Classical.byContradiction
    intro h0
    rw [star_len] at hl
    have hf1 := star_fin1 (a := a) (q := q - 1) (by omega)
    rw [show 1 + (q - 1) = q by omega, finB_get (List.getElem?_eq_getElem (by rw [star_len]; omega))] at hf1
    simp at hf1
    exact hf hf1
  | @step q p hq hp ih =>
    have hpl := key (Reach.step hq hp)
    rw [star_len] at hpl
    have hp2 : q ∈ tos (starM a) p := by
      rw [tos_ahead]
      exact ahead_mem.2 ((mem_backOf _ (to_lt hs) _ _).1 hp)
    by_cases h0 : p = 0
    · exact .inl h0
    · obtain ⟨y, rfl⟩ : ∃ y, p = 1 + y := ⟨p - 1, by omega⟩
      have hy : y < a.states.length := by omega
      right
      rw [star_tos1 ha.v hy] at hp2
      rcases List.mem_append.1 hp2 with hp2 | hp2
      · obtain ⟨t, ht, rfl⟩ := List.mem_map.1 hp2
        rcases ih with h1 | ⟨y', z, k, h1, h2, h3, h4⟩
        · omega
        · obtain rfl : t = y' := by omega
          exact ⟨y, z, k + 1, rfl, hy, h3, h4.cons ht⟩
      · split at hp2
        · rename_i hf
          exact ⟨y, y, 0, rfl, hy, hf, Way.zero⟩
        · cases hp2
theorem round_some (ha : FwdSmall a) (hs : Valid (starM a)) {p k : Nat} (hf : finB a p = true) (hw : Way a 0 p k) : ∃ S, Stuck (trimM (starM a)) S := by
  have hK := keepOf_len (starM a)
  have k0 : (keepOf (starM a)).getD 0 false = true := (keep_iff hs).2 ⟨star_RA0, star_RB0⟩
  have l0 : 0 < (starM a).states.length := by rw [star_len]; omega
  refine ⟨fun i => i < (trimM (starM a)).states.length, ⟨idx (keepOf (starM a)) 0, idx_lt hK k0 l0⟩, fun i hi => ⟨hi, ?_⟩⟩
  obtain ⟨q, hq, hk, rfl⟩ := trim_from hK i _ (Nat.le_refl _) hi
  have hab := (keep_iff hs).1 hk
  have key : ∀ x, RA (starM a) x → q ∈ aheadOf (starM a).states x → ∃ p, p < (trimM (starM a)).states.length ∧ idx (keepOf (starM a)) q ∈ tos (trimM (starM a)) p := fun x hx hm => by
    have hkx : (keepOf (starM a)).getD x false = true := (keep_iff hs).2 ⟨hx, RB_pre hs hab.2 hm⟩
    refine ⟨idx (keepOf (starM a)) x, idx_lt hK hkx (RA_lt hs hx), ?_⟩
    rw [tos_ahead]
    exact trim_ahead hkx hk hm
  cases hab.1 with
  | start hq0 =>
    have hq00 : q = 0 := by simpa [startOf, starM] using hq0
    subst hq00
    refine key (1 + p) (star_RA ha hw) ?_
    rw [← tos_ahead, star_tos1 ha.v (way_in ha.n1 ha.v hw), if_pos hf]
    simp
  | step h1 h2 => exact key _ h1 h2
theorem round_none (ha : FwdSmall a) (hs : Valid (starM a)) (hn : ∀ q k, finB a q = true → ¬ Way a 0 q k) (S : Nat → Prop) : ¬ Stuck (trimM (starM a)) S := by
  rintro ⟨⟨i, hi⟩, hst⟩
  have hK := keepOf_len (starM a)
  have only : ∀ x, (keepOf (starM a)).getD x false = true → x = 0 := fun x hx => by
    have hab := (keep_iff hs).1 hx
    rcases star_RA_to ha hab.1 with h | ⟨y, k, rfl, hw⟩
    · exact h
    · rcases star_RB_to ha hs hab.2 with h | ⟨y', z, k', h1, -, h3, h4⟩
      · exact h
      · obtain rfl : y = y' := by omega
        exact absurd (hw.trans h4) (hn _ _ h3)
  obtain ⟨hl, p, hp, ht⟩ := hst i hi
  have hpl := (hst p hp).1
  obtain ⟨q, hq, hk, rfl⟩ := trim_from hK p _ (Nat.le_refl _) hpl
  have hq0 := only q hk
  subst hq0
  have e := trim_at hK hk hq
  have e' : (trimM (starM a)).states[idx (keepOf (starM a)) 0]? = some (trimState (keepOf (starM a)) (starM a).states[0]) := e
  rw [tos_get e'] at ht
  obtain ⟨b, hb, -⟩ := List.mem_map.1 ht
  obtain ⟨b0, hb0, hk0, -⟩ := trim_arc hb
  have h1 := only _ hk0
  have h2 : b0.to.toNat ∈ tos (starM a) 0 := by
    rw [tos_ahead]
    exact ahead_mem.2 ⟨hq, b0, hb0, rfl⟩
  rw [star_tos0 ha.s0] at h2
  simp at h2
  omega
end
end Go.Proofs.Yteniblkmokpjjaa
