/- Costs along empty arcs (plain): empties.near. -/
import Derived.Test.YtlfjccgbngnjhaaComposePlain
namespace Go.Proofs.Ytlfjccgbngnjhaa
open Go.RowKit

def emptyA (a : ArcL) : Bool := a.inn == 0 && a.out == 0
/-- what ways along empty arcs cost -/
inductive EP (m : MachL) (q : Nat) : Nat → Int → Prop
  | nil : EP m q q 0
  | step {p : Nat} {c : Int} {a : ArcL} : EP m q p c → a ∈ arcsQ m p → emptyA a = true → EP m q a.to.toNat (c + a.wt)

/-- arcs lead to states and weigh nothing below 0 -/
structure ArcsOk (m : MachL) : Prop where
  to0 : ∀ p, ∀ a ∈ arcsQ m p, 0 ≤ a.to ∧ a.to < m.states.length
  wt0 : ∀ p, ∀ a ∈ arcsQ m p, 0 ≤ a.wt

abbrev cg (c : List Int) (p : Nat) : Int := c.getD p (-1)
abbrev dg (d : List Bool) (p : Nat) : Bool := d.getD p false
theorem cg_set (c : List Int) (p q : Nat) (x : Int) (h : p < c.length) : cg (c.set p x) q = if p = q then x else cg c q := by
  unfold cg
  rw [List.getD_eq_getElem?_getD, List.getD_eq_getElem?_getD, List.getElem?_set]
  by_cases e : p = q
  · subst e; simp [h]
  · simp [e]
theorem dg_set (c : List Bool) (p q : Nat) (x : Bool) (h : p < c.length) : dg (c.set p x) q = if p = q then x else dg c q := by
  unfold dg
  rw [List.getD_eq_getElem?_getD, List.getD_eq_getElem?_getD, List.getElem?_set]
  by_cases e : p = q
  · subst e; simp [h]
  · simp [e]
theorem cg_out {c : List Int} {p : Nat} (h : 0 ≤ cg c p) : p < c.length := by
  rcases Nat.lt_or_ge p c.length with k | k
  · exact k
  · unfold cg at h; rw [List.getD_eq_getElem?_getD, List.getElem?_eq_none k] at h; simp at h

/-- what holds between two rounds of near -/
structure NInv (m : MachL) (q : Nat) (c : List Int) (d : List Bool) : Prop where
  cl : c.length = m.states.length
  dl : d.length = m.states.length
  lo : ∀ p, cg c p = -1 ∨ (0 ≤ cg c p ∧ EP m q p (cg c p))
  st : cg c q = 0
  done : ∀ p, dg d p = true → 0 ≤ cg c p
  shut : ∀ p, dg d p = true → ∀ a ∈ arcsQ m p, emptyA a = true → 0 ≤ cg c a.to.toNat ∧ cg c a.to.toNat ≤ cg c p + a.wt
  low : ∀ e p, dg d e = true → dg d p = false → 0 ≤ cg c p → cg c e ≤ cg c p
/-- what holds while k's arcs are followed, t of them already -/
structure NMid (m : MachL) (q : Nat) (c : List Int) (d : List Bool) (k t : Nat) : Prop where
  cl : c.length = m.states.length
  dl : d.length = m.states.length
  lo : ∀ p, cg c p = -1 ∨ (0 ≤ cg c p ∧ EP m q p (cg c p))
  st : cg c q = 0
  done : ∀ p, dg d p = true → 0 ≤ cg c p
  shut : ∀ p, dg d p = true → p ≠ k → ∀ a ∈ arcsQ m p, emptyA a = true → 0 ≤ cg c a.to.toNat ∧ cg c a.to.toNat ≤ cg c p + a.wt
  part : ∀ a ∈ (arcsQ m k).take t, emptyA a = true → 0 ≤ cg c a.to.toNat ∧ cg c a.to.toNat ≤ cg c k + a.wt
  low : ∀ e p, dg d e = true → dg d p = false → 0 ≤ cg c p → cg c e ≤ cg c p
  top : ∀ e, dg d e = true → cg c e ≤ cg c k
  dk : dg d k = true

theorem NInv.pick {m : MachL} {q : Nat} {c : List Int} {d : List Bool} (h : NInv m q c d) {k : Nat} (h0 : 0 ≤ cg c k) (hk : dg d k = false) (hm : ∀ p, dg d p = false → 0 ≤ cg c p → cg c k ≤ cg c p) :
    NMid m q c (d.set k true) k 0 := by
  have hkl : k < d.length := by rw [h.dl, ← h.cl]; exact cg_out h0
  have hs := fun p => dg_set d k p true hkl
  refine ⟨h.cl, by rw [List.length_set]; exact h.dl, h.lo, h.st, ?_, ?_, by simp, ?_, ?_, by rw [hs]; simp⟩
  · intro p hp
    rw [hs] at hp
    split at hp
    · rename_i e; subst e; exact h0
    · exact h.done p hp
  · intro p hp hne a ha he
    rw [hs, if_neg (fun e => hne e.symm)] at hp
    exact h.shut p hp a ha he
  · intro e p he hp h1
    rw [hs] at he hp
    have hp' : dg d p = false := by
      split at hp
      · cases hp
      · exact hp
    split at he
    · rename_i x; subst x; exact hm p hp' h1
    · exact h.low e p he hp' h1
  · intro e he
    rw [hs] at he
    split at he
    · rename_i x; subst x; exact Int.le_refl _
    · exact h.low e k he hk h0
theorem NMid.keep {m : MachL} {q : Nat} {c : List Int} {d : List Bool} {k t : Nat} (h : NMid m q c d k t) (ht : t < (arcsQ m k).length)
    (hn : emptyA (arcsQ m k)[t] = true → 0 ≤ cg c (arcsQ m k)[t].to.toNat ∧ cg c (arcsQ m k)[t].to.toNat ≤ cg c k + (arcsQ m k)[t].wt) : NMid m q c d k (t + 1) := by
  refine ⟨h.cl, h.dl, h.lo, h.st, h.done, h.shut, ?_, h.low, h.top, h.dk⟩
  intro a ha he
  rw [List.take_succ_eq_append_getElem ht] at ha
  rcases List.mem_append.1 ha with ha | ha
  · exact h.part a ha he
  · have e : a = (arcsQ m k)[t] := by simpa using ha
    subst e; exact hn he
theorem NMid.set {m : MachL} (ok : ArcsOk m) {q : Nat} {c : List Int} {d : List Bool} {k t : Nat} (h : NMid m q c d k t) (ht : t < (arcsQ m k).length) (he : emptyA (arcsQ m k)[t] = true)
    (hc : cg c (arcsQ m k)[t].to.toNat < 0 ∨ cg c k + (arcsQ m k)[t].wt < cg c (arcsQ m k)[t].to.toNat) : NMid m q (c.set (arcsQ m k)[t].to.toNat (cg c k + (arcsQ m k)[t].wt)) d k (t + 1) := by
  have hmem : (arcsQ m k)[t] ∈ arcsQ m k := List.getElem_mem ht
  have htk : ∀ a ∈ (arcsQ m k).take (t + 1), a ∈ (arcsQ m k).take t ∨ a = (arcsQ m k)[t] := by
    intro a ha
    rw [List.take_succ_eq_append_getElem ht] at ha
    rcases List.mem_append.1 ha with ha | ha
    · exact .inl ha
    · exact .inr (by simpa using ha)
  generalize (arcsQ m k)[t] = a at *
  have hw := ok.wt0 k a hmem
  obtain ⟨t0, t1⟩ := ok.to0 k a hmem
  have hkc := h.done k h.dk
  have htl : a.to.toNat < c.length := by rw [h.cl]; omega
  have hs := fun p => cg_set c a.to.toNat p (cg c k + a.wt) htl
  have hnd : dg d a.to.toNat = false := by
    cases hd : dg d a.to.toNat with
    | false => rfl
    | true => have := h.top _ hd; have := h.done _ hd; omega
  have hdn : ∀ p, dg d p = true → cg (c.set a.to.toNat (cg c k + a.wt)) p = cg c p := by
    intro p hp
    rw [hs, if_neg]
    rintro e; subst e; rw [hnd] at hp; cases hp
  have hle : ∀ p, 0 ≤ cg c p → 0 ≤ cg (c.set a.to.toNat (cg c k + a.wt)) p ∧ cg (c.set a.to.toNat (cg c k + a.wt)) p ≤ cg c p := by
    intro p hp
    rw [hs]
    split
    · rename_i e; subst e; omega
    · exact ⟨hp, Int.le_refl _⟩
  refine ⟨by rw [List.length_set]; exact h.cl, h.dl, ?_, ?_, ?_, ?_, ?_, ?_, ?_, h.dk⟩
  · intro p
    rw [hs]
    split
    · rename_i e; subst e
      rcases h.lo k with h1 | h1
      · omega
      · exact .inr ⟨by omega, EP.step h1.2 hmem he⟩
    · exact h.lo p
  · rw [hs]
    split
    · rename_i e; rw [e] at hc; rw [h.st] at hc; omega
    · exact h.st
  · intro p hp; rw [hdn p hp]; exact h.done p hp
  · intro p hp hne b hb heb
    obtain ⟨g1, g2⟩ := h.shut p hp hne b hb heb
    obtain ⟨g3, g4⟩ := hle _ g1
    rw [hdn p hp]; omega
  · intro b hb heb
    rw [hdn k h.dk]
    rcases htk b hb with hb | rfl
    · obtain ⟨g1, g2⟩ := h.part b hb heb
      obtain ⟨g3, g4⟩ := hle _ g1
      omega
    · rw [hs, if_pos rfl]; omega
  · intro e p he' hp hp0
    rw [hdn e he']
    rw [hs] at hp0 ⊢
    have := h.top e he'
    split at hp0
    · rename_i x; rw [if_pos x]; omega
    · rename_i x; rw [if_neg x]; exact h.low e p he' hp hp0
  · intro e he'; rw [hdn e he', hdn k h.dk]; exact h.top e he'
theorem NMid.close {m : MachL} {q : Nat} {c : List Int} {d : List Bool} {k t : Nat} (h : NMid m q c d k t) (ht : (arcsQ m k).length ≤ t) : NInv m q c d := by
  refine ⟨h.cl, h.dl, h.lo, h.st, h.done, ?_, h.low⟩
  intro p hp a ha he
  by_cases e : p = k
  · subst e; exact h.part a (by rw [List.take_of_length_le ht]; exact ha) he
  · exact h.shut p hp e a ha he
/-- l: what each state costs from q along empty arcs -/
structure Near (m : MachL) (q : Nat) (l : List Int) : Prop where
  len : l.length = m.states.length
  st : cg l q = 0
  no : ∀ p, cg l p < 0 → cg l p = -1 ∧ ∀ c, ¬ EP m q p c
  yes : ∀ p, 0 ≤ cg l p → EP m q p (cg l p) ∧ ∀ c, EP m q p c → cg l p ≤ c
theorem NInv.near {m : MachL} {q : Nat} {c : List Int} {d : List Bool} (h : NInv m q c d) (hn : ∀ p, dg d p = false → cg c p < 0) : Near m q c := by
  have hd : ∀ p, 0 ≤ cg c p → dg d p = true := fun p hp => by
    cases e : dg d p with
    | true => rfl
    | false => have := hn p e; omega
  have key : ∀ p x, EP m q p x → 0 ≤ cg c p ∧ cg c p ≤ x := by
    intro p x hx
    induction hx with
    | nil => rw [h.st]; omega
    | step _ ha he ih =>
      obtain ⟨h1, h2⟩ := h.shut _ (hd _ ih.1) _ ha he
      omega
  refine ⟨h.cl, h.st, fun p hp => ⟨?_, fun x hx => by have := (key p x hx).1; omega⟩, fun p hp => ⟨?_, fun x hx => (key p x hx).2⟩⟩
  · rcases h.lo p with e | e
    · exact e
    · omega
  · rcases h.lo p with e | e
    · omega
    · exact e.2
theorem NInv.start {m : MachL} {q : Nat} (hq : q < m.states.length) : NInv m q ((List.replicate m.states.length (-1)).set q 0) (List.replicate m.states.length false) := by
  have hr : ∀ p, cg (List.replicate m.states.length (-1)) p = -1 := by intro p; unfold cg; simp only [List.getD_eq_getElem?_getD, List.getElem?_replicate]; split <;> rfl
  have hf : ∀ p, dg (List.replicate m.states.length false) p = false := by intro p; unfold dg; simp only [List.getD_eq_getElem?_getD, List.getElem?_replicate]; split <;> rfl
  have hs := fun p => cg_set (List.replicate m.states.length (-1 : Int)) q p 0 (by simpa using hq)
  refine ⟨by simp, by simp, fun p => ?_, by rw [hs, if_pos rfl], fun p hp => ?_, fun p hp => ?_, fun e p hp => ?_⟩
  · rw [hs, hr]
    split
    · rename_i e; subst e; exact .inr ⟨Int.le_refl _, EP.nil⟩
    · exact .inl rfl
  · rw [hf] at hp; cases hp
  · rw [hf] at hp; cases hp
  · rw [hf] at hp; cases hp
end Go.Proofs.Ytlfjccgbngnjhaa
