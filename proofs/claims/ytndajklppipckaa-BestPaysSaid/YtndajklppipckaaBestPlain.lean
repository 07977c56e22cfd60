/- The cheapest paths, of these the shortest (plain). -/
import Derived.Test.YtndajklppipckaaDistLaw
namespace Go.Proofs.Ytndajklppipckaa

def lle (a b : Int × Int) : Prop := a.1 < b.1 ∨ a.1 = b.1 ∧ a.2 ≤ b.2
def llt (a b : Int × Int) : Prop := a.1 < b.1 ∨ a.1 = b.1 ∧ a.2 < b.2
abbrev none2 : Int × Int := (1000000001, 1000000001)
theorem lle_refl (a : Int × Int) : lle a a := .inr ⟨rfl, Int.le_refl _⟩
theorem lle_trans {a b c : Int × Int} (h : lle a b) (k : lle b c) : lle a c := by unfold lle at *; omega
theorem lle_of_not {a b : Int × Int} (h : ¬ llt a b) : lle b a := by unfold lle llt at *; omega
theorem lle_of_lt {a b : Int × Int} (h : llt a b) : lle a b := by unfold lle llt at *; omega
/-- a way to an end, what it costs and how many arcs it has -/
inductive Tw (m : MachL) : Nat → Int → Int → Prop
  | fin {q : Nat} {s : StateL} : m.states[q]? = some s → s.final ≠ 1000000001 → Tw m q s.final 0
  | arc {q : Nat} {s : StateL} {a : ArcL} {A B : Int} : m.states[q]? = some s → a ∈ s.arcs → Tw m a.to.toNat A B → Tw m q (a.wt + A) (1 + B)
/-- the same, with the states that it goes through; L: what is known is no more anywhere on it -/
inductive Walk (m : MachL) (L : Nat → Int × Int) : Nat → List Nat → Int → Int → Prop
  | fin {q : Nat} {s : StateL} : m.states[q]? = some s → s.final ≠ 1000000001 → lle (L q) (s.final, 0) → Walk m L q [] s.final 0
  | arc {q : Nat} {s : StateL} {a : ArcL} {vs : List Nat} {A B : Int} : m.states[q]? = some s → a ∈ s.arcs → Walk m L a.to.toNat vs A B → lle (L q) (a.wt + A, 1 + B) → Walk m L q (a.to.toNat :: vs) (a.wt + A) (1 + B)
section
variable {m : MachL} {L L' : Nat → Int × Int}
theorem Walk.tw {q : Nat} {vs : List Nat} {A B : Int} (h : Walk m L q vs A B) : Tw m q A B := by
  induction h with
  | fin hs hf _ => exact .fin hs hf
  | arc hs ha _ _ ih => exact .arc hs ha ih
theorem Walk.mono (hl : ∀ r, lle (L' r) (L r)) {q : Nat} {vs : List Nat} {A B : Int} (h : Walk m L q vs A B) : Walk m L' q vs A B := by
  induction h with
  | fin hs hf hq => exact .fin hs hf (lle_trans (hl _) hq)
  | arc hs ha _ hq ih => exact .arc hs ha ih (lle_trans (hl _) hq)
theorem Walk.lt {q : Nat} {vs : List Nat} {A B : Int} (h : Walk m L q vs A B) : ∀ r ∈ q :: vs, r < m.states.length := by
  induction h with
  | fin hs hf _ =>
    intro r hr
    simp at hr
    subst hr
    exact (List.getElem?_eq_some_iff.1 hs).1
  | arc hs ha _ _ ih =>
    intro r hr
    rcases List.mem_cons.1 hr with rfl | hr
    · exact (List.getElem?_eq_some_iff.1 hs).1
    · exact ih r hr
theorem Walk.nn (hv : Valid m) {q : Nat} {vs : List Nat} {A B : Int} (h : Walk m L q vs A B) : 0 ≤ A ∧ 0 ≤ B ∧ B = vs.length := by
  induction h with
  | @fin q s hs hf _ =>
    have := (hv.st _ (List.mem_of_getElem? hs)).1
    unfold ValidFinal at this
    exact ⟨by omega, by omega, rfl⟩
  | @arc q s a vs A B hs ha _ _ ih =>
    have := ((hv.st _ (List.mem_of_getElem? hs)).2 a ha).w0
    refine ⟨by omega, by omega, ?_⟩
    rw [List.length_cons]
    omega
theorem Walk.le {W : Int} (hW : ∀ s ∈ m.states, (s.final = 1000000001 ∨ s.final ≤ W) ∧ ∀ a ∈ s.arcs, a.wt ≤ W) {q : Nat} {vs : List Nat} {A B : Int} (h : Walk m L q vs A B) : A ≤ W * (vs.length + 1 : Nat) := by
  induction h with
  | @fin q s hs hf _ =>
    have := (hW s (List.mem_of_getElem? hs)).1
    simp
    omega
  | @arc q s a vs A B hs ha _ _ ih =>
    have := (hW s (List.mem_of_getElem? hs)).2 a ha
    have e : W * ((vs.length + 1 + 1 : Nat) : Int) = W * ((vs.length + 1 : Nat) : Int) + W := by
      rw [show ((vs.length + 1 + 1 : Nat) : Int) = ((vs.length + 1 : Nat) : Int) + 1 by simp, Int.mul_add, Int.mul_one]
    rw [List.length_cons, e]
    omega
/-- what is known on a walk is no more than the whole -/
theorem Walk.mem (hv : Valid m) {q : Nat} {vs : List Nat} {A B : Int} (h : Walk m L q vs A B) : ∀ r ∈ q :: vs, ∃ A' B', lle (L r) (A', B') ∧ A' ≤ A ∧ B' ≤ B := by
  induction h with
  | @fin q s hs hf hq =>
    intro r hr
    simp at hr
    subst hr
    exact ⟨_, _, hq, Int.le_refl _, Int.le_refl _⟩
  | @arc q s a vs A B hs ha hw hq ih =>
    intro r hr
    rcases List.mem_cons.1 hr with rfl | hr
    · exact ⟨_, _, hq, Int.le_refl _, Int.le_refl _⟩
    · obtain ⟨A', B', h1, h2, h3⟩ := ih r hr
      have := ((hv.st _ (List.mem_of_getElem? hs)).2 a ha).w0
      exact ⟨A', B', h1, by omega, by omega⟩
end
def tw (L : List (Int × Int)) (q : Nat) : Int × Int := L.getD q (0, 0)
theorem tw_set (L : List (Int × Int)) (q : Nat) (hq : q < L.length) (x : Int × Int) (r : Nat) : tw (L.set q x) r = if r = q then x else tw L r := by
  unfold tw
  rw [List.getD_eq_getElem?_getD, List.getD_eq_getElem?_getD, List.getElem?_set]
  by_cases e : q = r
  · subst e; simp [hq]
  · have : ¬ r = q := fun h => e h.symm
    simp [e, this]
theorem nodup_lt2 (n : Nat) : ∀ (l : List Nat), l.Nodup → (∀ x ∈ l, x < n) → l.length ≤ n := by
  induction n with
  | zero =>
    intro l _ h
    cases l with
    | nil => simp
    | cons a l => exact absurd (h a (by simp)) (by omega)
  | succ n ih =>
    intro l hd h
    by_cases hn : n ∈ l
    · have h1 := List.length_erase_of_mem hn
      have h2 := ih (l.erase n) (hd.erase n) (fun x hx => by
        have h3 := (hd.mem_erase_iff).1 hx
        have := h x h3.2
        have := h3.1
        omega)
      have := List.length_pos_of_mem hn
      omega
    · have := ih l hd (fun x hx => by
        have := h x hx
        have : x ≠ n := fun e => hn (e ▸ hx)
        omega)
      omega
/-- numbers are small -/
def BSmall (m : MachL) : Prop := ∀ s ∈ m.states, (s.final = 1000000001 ∨ s.final ≤ 1000000) ∧ ∀ a ∈ s.arcs, a.wt ≤ 1000000
/-- what ends holds on its way -/
structure EInv (m : MachL) (L : List (Int × Int)) : Prop where
  len : L.length = m.states.length
  ok : ∀ q, q < m.states.length → tw L q = none2 ∨ ∃ vs, (q :: vs).Nodup ∧ Walk m (tw L) q vs (tw L q).1 (tw L q).2
  fin : ∀ (q : Nat) (s : StateL), m.states[q]? = some s → s.final ≠ 1000000001 → lle (tw L q) (s.final, 0)
theorem EInv.b {m : MachL} {L : List (Int × Int)} (h : EInv m L) (hv : Valid m) (hs : BSmall m) {q : Nat} (hq : q < m.states.length) : tw L q = none2 ∨ (0 ≤ (tw L q).1 ∧ (tw L q).1 ≤ 60000000 ∧ 0 ≤ (tw L q).2 ∧ (tw L q).2 < m.states.length ∧ (tw L q).2 ≤ 60) := by
  rcases h.ok q hq with e | ⟨vs, hn, hw⟩
  · exact .inl e
  · right
    have h1 := hw.nn hv
    have h2 := hw.le hs
    have h3 := nodup_lt2 _ (q :: vs) hn hw.lt
    have h4 := hv.size
    rw [List.length_cons] at h3
    refine ⟨h1.1, by omega, h1.2.1, by omega, by omega⟩
theorem EInv.set {m : MachL} {L : List (Int × Int)} (h : EInv m L) (hv : Valid m) {q : Nat} {s : StateL} {a : ArcL} (hs : m.states[q]? = some s) (ha : a ∈ s.arcs) (hne : tw L a.to.toNat ≠ none2) (hl : llt (a.wt + (tw L a.to.toNat).1, 1 + (tw L a.to.toNat).2) (tw L q)) :
    EInv m (L.set q (a.wt + (tw L a.to.toNat).1, 1 + (tw L a.to.toNat).2)) := by
  obtain ⟨hql, hqe⟩ := List.getElem?_eq_some_iff.1 hs
  have hq : q < L.length := by rw [h.len]; exact hql
  have hg := tw_set L q hq (a.wt + (tw L a.to.toNat).1, 1 + (tw L a.to.toNat).2)
  have hle : ∀ r, lle (tw (L.set q (a.wt + (tw L a.to.toNat).1, 1 + (tw L a.to.toNat).2)) r) (tw L r) := fun r => by
    rw [hg]
    split
    · rename_i e; subst e; exact lle_of_lt hl
    · exact lle_refl _
  have hva := (hv.st _ (List.mem_of_getElem? hs)).2 a ha
  have hto : a.to.toNat < m.states.length := by have := hva.t0; have := hva.t1; omega
  refine ⟨by rw [List.length_set]; exact h.len, fun r hr => ?_, fun r s' hs' hf => lle_trans (hle r) (h.fin r s' hs' hf)⟩
  by_cases e : r = q
  · subst e
    right
    obtain ⟨vs, hn, hw⟩ := (h.ok _ hto).resolve_left hne
    have hnot : r ∉ a.to.toNat :: vs := fun hm => by
      obtain ⟨A', B', h1, h2, h3⟩ := hw.mem hv r hm
      have := hva.w0
      unfold llt at hl
      unfold lle at h1
      simp only at *
      omega
    refine ⟨a.to.toNat :: vs, List.nodup_cons.2 ⟨hnot, hn⟩, ?_⟩
    rw [hg, if_pos rfl]
    exact Walk.arc hs ha (hw.mono hle) (by rw [hg, if_pos rfl]; exact lle_refl _)
  · rw [hg, if_neg e]
    exact (h.ok r hr).imp id (fun ⟨vs, hn, hw⟩ => ⟨vs, hn, hw.mono hle⟩)
/-- nothing gets better along an arc -/
def ClosedAt (L : List (Int × Int)) (q : Nat) (a : ArcL) : Prop := tw L a.to.toNat ≠ none2 → lle (tw L q) (a.wt + (tw L a.to.toNat).1, 1 + (tw L a.to.toNat).2)
def BClosed (m : MachL) (L : List (Int × Int)) : Prop := ∀ (q : Nat) (s : StateL), m.states[q]? = some s → ∀ a ∈ s.arcs, ClosedAt L q a
theorem BClosed.least {m : MachL} {L : List (Int × Int)} (hc : BClosed m L) (h : EInv m L) (hv : Valid m) (hs : BSmall m) {q : Nat} {A B : Int} (ht : Tw m q A B) : tw L q ≠ none2 ∧ lle (tw L q) (A, B) := by
  induction ht with
  | @fin q s hq hf =>
    have h1 := h.fin q s hq hf
    have h2 := (hs s (List.mem_of_getElem? hq)).1
    refine ⟨fun e => ?_, h1⟩
    rw [e] at h1
    unfold lle at h1
    simp only at h1
    omega
  | @arc q s a A B hq ha _ ih =>
    obtain ⟨i1, i2⟩ := ih
    have hva := (hv.st _ (List.mem_of_getElem? hq)).2 a ha
    have hto : a.to.toNat < m.states.length := by have := hva.t0; have := hva.t1; omega
    have h1 := hc q s hq a ha i1
    have h2 := (h.b hv hs hto).resolve_left i1
    have h3 := (hs s (List.mem_of_getElem? hq)).2 a ha
    refine ⟨fun e => ?_, lle_trans h1 (by unfold lle at *; simp only at *; omega)⟩
    rw [e] at h1
    unfold lle at h1
    simp only at h1
    omega
/-- the potential -/
def rank1 (p : Int × Int) : Nat := p.1.toNat * 1000000002 + p.2.toNat
def rankL (L : List (Int × Int)) : Nat := (L.map rank1).sum
theorem rank_set (L : List (Int × Int)) (q : Nat) (hq : q < L.length) (x : Int × Int) (h : rank1 x < rank1 (tw L q)) : rankL (L.set q x) < rankL L := by
  unfold rankL
  induction L generalizing q with
  | nil => simp at hq
  | cons y L ih =>
    cases q with
    | zero =>
      simp only [List.set_cons_zero, List.map_cons, List.sum_cons]
      have : rank1 x < rank1 y := h
      omega
    | succ q =>
      simp only [List.set_cons_succ, List.map_cons, List.sum_cons]
      have := ih q (by simpa using hq) h
      omega
theorem rank_lt {a b : Int × Int} (h : llt a b) (ha : 0 ≤ a.1) (ha2 : 0 ≤ a.2) (ha3 : a.2 ≤ 1000000001) (hb : 0 ≤ b.1) (hb2 : 0 ≤ b.2) : rank1 a < rank1 b := by
  unfold rank1
  unfold llt at h
  rcases h with h | ⟨h1, h2⟩
  · have : (a.1.toNat + 1) * 1000000002 ≤ b.1.toNat * 1000000002 := Nat.mul_le_mul_right _ (by omega)
    omega
  · rw [h1]; omega
end Go.Proofs.Ytndajklppipckaa
