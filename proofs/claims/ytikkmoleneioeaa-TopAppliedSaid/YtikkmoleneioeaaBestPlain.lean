/- The cheapest paths, of these the shortest (plain). -/
/- Paths as numbers of arcs (plain). -/
import Derived.Test.YtikkmoleneioeaaDistLaw
namespace Go.Proofs.Ytikkmoleneioeaa

def lle (a b : Int × Int) : Prop := a.1 < b.1 ∨ a.1 = b.1 ∧ a.2 ≤ b.2
def llt (a b : Int × Int) : Prop := a.1 < b.1 ∨ a.1 = b.1 ∧ a.2 < b.2
abbrev none2 : Int × Int := (1000000001, 1000000001)
theorem lle_refl (a : Int × Int) : lle a a := .inr ⟨rfl, Int.le_refl _⟩
theorem lle_trans {a b c : Int × Int} (h : lle a b) (k : lle b c) : lle a c := by unfold lle at *; omega
theorem lle_of_not {a b : Int × Int} (h : ¬ llt a b) : lle b a := by unfold lle llt at *; omega
theorem lle_of_lt {a b : Int × Int} (h : llt a b) : lle a b := by unfold lle llt at *; omega
/-- a way to an end, what it costs and how many arcs it has -/
inductive Tw (m : MachL) : Nat → Int → Int → Prop
  | fin {q : Nat} {s : StateL} : m.states[q]? = some s → s.final ≠ 1000000001 → Tw m q s.final 0
  | arc {q : Nat} {s : StateL} {a : ArcL} {A B : Int} : m.states[q]? = some s → a ∈ s.arcs → Tw m a.to.toNat A B → Tw m q (a.wt + A) (1 + B)
/-- the same, with the states that it goes through; L: what is known is no more anywhere on it -/
inductive Walk (m : MachL) (L : Nat → Int × Int) : Nat → List Nat → Int → Int → Prop
  | fin {q : Nat} {s : StateL} : m.states[q]? = some s → s.final ≠ 1000000001 → lle (L q) (s.final, 0) → Walk m L q [] s.final 0
  | arc {q : Nat} {s : StateL} {a : ArcL} {vs : List Nat} {A B : Int} : m.states[q]? = some s → a ∈ s.arcs → Walk m L a.to.toNat vs A B → lle (L q) (a.wt + A, 1 + B) → Walk m L q (a.to.toNat :: vs) (a.wt + A) (1 + B)
section
variable {m : MachL} {L L' : Nat → Int × Int}
theorem Walk.tw {q : Nat} {vs : List Nat} {A B : Int} (h : Walk m L q vs A B) : Tw m q A B := by
  induction h with
  | fin hs hf _ => exact .fin hs hf
  | arc hs ha _ _ ih => exact .arc hs ha ih
theorem Walk.mono (hl : ∀ r, lle (L' r) (L r)) {q : Nat} {vs : List Nat} {A B : Int} (h : Walk m L q vs A B) : Walk m L' q vs A B := by
  induction h with
  | fin hs hf hq => exact .fin hs hf (lle_trans (hl _) hq)
  | arc hs ha _ hq ih => exact .arc hs ha ih (lle_trans (hl _) hq)
theorem Walk.lt {q : Nat} {vs : List Nat} {A B : Int} (h : Walk m L q vs A B) : ∀ r ∈ q :: vs, r < m.states.length := by
  induction h with
  | fin hs hf _ =>
    intro r hr
    simp at hr
    subst hr
    exact (List.getElem?_eq_some_iff.1 hs).1
  | arc hs ha _ _ ih =>
    intro r hr
    rcases List.mem_cons.1 hr with rfl | hr
    · exact (List.getElem?_eq_some_iff.1 hs).1
    · exact ih r hr
theorem Walk.nn (hv : Valid m) {q : Nat} {vs : List Nat} {A B : Int} (h : Walk m L q vs A B) : 0 ≤ A ∧ 0 ≤ B ∧ B = vs.length := by
  induction h with
  | @fin q s hs hf _ =>
    have := (hv.st _ (List.mem_of_getElem? hs)).1
    unfold ValidFinal at this
    exact ⟨by omega, by omega, rfl⟩
  | @arc q s a vs A B hs ha _ _ ih =>
    have := ((hv.st _ (List.mem_of_getElem? hs)).2 a ha).w0
    refine ⟨by omega, by omega, ?_⟩
    rw [List.length_cons]
    omega
theorem Walk.le {W : Int} (hW : ∀ s ∈ m.states, (s.final = 1000000001 ∨ s.final ≤ W) ∧ ∀ a ∈ s.arcs, a.wt ≤ W) {q : Nat} {vs : List Nat} {A B : Int} (h : Walk m L q vs A B) : A ≤ W * (vs.length + 1 : Nat) := by
  induction h with
  | @fin q s hs hf _ =>
    have := (hW s (List.mem_of_getElem? hs)).1
    simp
    omega
  | @arc q s a vs A B hs ha _ _ ih =>
    have := (hW s (List.mem_of_getElem? hs)).2 a ha
    have e : W * ((vs.length + 1 + 1 : Nat) : Int) = W * ((vs.length + 1 : Nat) : Int) + W := by
      rw [show ((vs.length + 1 + 1 : Nat) : Int) = ((vs.length + 1 : Nat) : Int) + 1 by simp, Int.mul_add, Int.mul_one]
    rw [List.length_cons, e]
    omega
/-- what is known on a walk is no more than the whole -/
theorem Walk.mem (hv : Valid m) {q : Nat} {vs : List Nat} {A B : Int} (h : Walk m L q vs A B) : ∀ r ∈ q :: vs, ∃ A' B', lle (L r) (A', B') ∧ A' ≤ A ∧ B' ≤ B := by
  induction h with
  | @fin q s hs hf hq =>
    intro r hr
    simp at hr
    subst hr
    exact ⟨_, _, hq, Int.le_refl _, Int.le_refl _⟩
  | @arc q s a vs A B hs ha hw hq ih =>
    intro r hr
    rcases List.mem_cons.1 hr with rfl | hr
    · exact ⟨_, _, hq, Int.le_refl _, Int.le_refl _⟩
    · obtain ⟨A', B', h1, h2, h3⟩ := ih r hr
      have := ((hv.st _ (List.mem_of_getElem? hs)).2 a ha).w0
      exact ⟨A', B', h1, by omega, by omega⟩
end
def tw (L : List (Int × Int)) (q : Nat) : Int × Int := L.getD q (0, 0)
theorem tw_set (L : List (Int × Int)) (q : Nat) (hq : q < L.length) (x : Int × Int) (r : Nat) : tw (L.set q x) r = if r = q then x else tw L r := by
  unfold tw
  rw [List.getD_eq_getElem?_getD, List.getD_eq_getElem?_getD, List.getElem?_set]
  by_cases e : q = r
  · subst e; simp [hq]
  · have : ¬ r = q := fun h => e h.symm
    simp [e, this]
theorem nodup_lt2 (n : Nat) : ∀ (l : List Nat), l.Nodup → (∀ x ∈ l, x < n) → l.length ≤ n := by
  induction n with
  | zero =>
    intro l _ h
    cases l with
    | nil => simp
    | cons a l => exact absurd (h a (by simp)) (by omega)
  | succ n ih =>
    intro l hd h
    by_cases hn : n ∈ l
    · have h1 := List.length_erase_of_mem hn
      have h2 := ih (l.erase n) (hd.erase n) (fun x hx => by
        have h3 := (hd.mem_erase_iff).1 hx
        have := h x h3.2
        have := h3.1
        omega)
      have := List.length_pos_of_mem hn
      omega
    · have := ih l hd (fun x hx => by
        have := h x hx
        have : x ≠ n := fun e => hn (e ▸ hx)
        omega)
      omega
/-- numbers are small -/
def BSmall (m : MachL) : Prop := ∀ s ∈ m.states, (s.final = 1000000001 ∨ s.final ≤ 1000000) ∧ ∀ a ∈ s.arcs, a.wt ≤ 1000000
/-- what ends holds on its way -/
structure EInv (m : MachL) (L : List (Int × Int)) : Prop where
  len : L.length = m.states.length
  ok : ∀ q, q < m.states.length → tw L q = none2 ∨ ∃ vs, (q :: vs).Nodup ∧ Walk m (tw L) q vs (tw L q).1 (tw L q).2
  fin : ∀ (q : Nat) (s : StateL), m.states[q]? = some s → s.final ≠ 1000000001 → lle (tw L q) (s.final, 0)
theorem EInv.b {m : MachL} {L : List (Int × Int)} (h : EInv m L) (hv : Valid m) (hs : BSmall m) {q : Nat} (hq : q < m.states.length) : tw L q = none2 ∨ (0 ≤ (tw L q).1 ∧ (tw L q).1 ≤ 60000000 ∧ 0 ≤ (tw L q).2 ∧ (tw L q).2 < m.states.length ∧ (tw L q).2 ≤ 60) := by
  rcases h.ok q hq with e | ⟨vs, hn, hw⟩
  · exact .inl e
  · right
    have h1 := hw.nn hv
    have h2 := hw.le hs
    have h3 := nodup_lt2 _ (q :: vs) hn hw.lt
    have h4 := hv.size
    rw [List.length_cons] at h3
    refine ⟨h1.1, by omega, h1.2.1, by omega, by omega⟩
theorem EInv.set {m : MachL} {L : List (Int × Int)} (h : EInv m L) (hv : Valid m) {q : Nat} {s : StateL} {a : ArcL} (hs : m.states[q]? = some s) (ha : a ∈ s.arcs) (hne : tw L a.to.toNat ≠ none2) (hl : llt (a.wt + (tw L a.to.toNat).1, 1 + (tw L a.to.toNat).2) (tw L q)) :
    EInv m (L.set q (a.wt + (tw L a.to.toNat).1, 1 + (tw L a.to.toNat).2)) := by
  obtain ⟨hql, hqe⟩ := List.getElem?_eq_some_iff.1 hs
  have hq : q < L.length := by rw [h.len]; exact hql
  have hg := tw_set L q hq (a.wt + (tw L a.to.toNat).1, 1 + (tw L a.to.toNat).2)
  have hle : ∀ r, lle (tw (L.set q (a.wt + (tw L a.to.toNat).1, 1 + (tw L a.to.toNat).2)) r) (tw L r) := fun r => by
    rw [hg]
    split
    · rename_i e; subst e; exact lle_of_lt hl
    · exact lle_refl _
  have hva := (hv.st _ (List.mem_of_getElem? hs)).2 a ha
  have hto : a.to.toNat < m.states.length := by have := hva.t0; have := hva.t1; omega
  refine ⟨by rw [List.length_set]; exact h.len, fun r hr => ?_, fun r s' hs' hf => lle_trans (hle r) (h.fin r s' hs' hf)⟩
  by_cases e : r = q
  · subst e
    right
    obtain ⟨vs, hn, hw⟩ := (h.ok _ hto).resolve_left hne
    have hnot : r ∉ a.to.toNat :: vs := fun hm => by
      obtain ⟨A', B', h1, h2, h3⟩ := hw.mem hv r hm
      have := hva.w0
      unfold llt at hl
      unfold lle at h1
      simp only at *
      omega
    refine ⟨a.to.toNat :: vs, List.nodup_cons.2 ⟨hnot, hn⟩, ?_⟩
    rw [hg, if_pos rfl]
    exact Walk.arc hs ha (hw.mono hle) (by rw [hg, if_pos rfl]; exact lle_refl _)
  · rw [hg, if_neg e]
    exact (h.ok r hr).imp id (fun ⟨vs, hn, hw⟩ => ⟨vs, hn, hw.mono hle⟩)
/-- nothing gets better along an arc -/
def ClosedAt (L : List (Int × Int)) (q : Nat) (a : ArcL) : Prop := tw L a.to.toNat ≠ none2 → lle (tw L q) (a.wt + (tw L a.to.toNat).1, 1 + (tw L a.to.toNat).2)
def BClosed (m : MachL) (L : List (Int × Int)) : Prop := ∀ (q : Nat) (s : StateL), m.states[q]? = some s → ∀ a ∈ s.arcs, ClosedAt L q a
theorem BClosed.least {m : MachL} {L : List (Int × Int)} (hc : BClosed m L) (h : EInv m L) (hv : Valid m) (hs : BSmall m) {q : Nat} {A B : Int} (ht : Tw m q A B) : tw L q ≠ none2 ∧ lle (tw L q) (A, B) := by
  induction ht with
  | @fin q s hq hf =>
    have h1 := h.fin q s hq hf
    have h2 := (hs s (List.mem_of_getElem? hq)).1
    refine ⟨fun e => ?_, h1⟩
    rw [e] at h1
    unfold lle at h1
    simp only at h1
    omega
  | @arc q s a A B hq ha _ ih =>
    obtain ⟨i1, i2⟩ := ih
    have hva := (hv.st _ (List.mem_of_getElem? hq)).2 a ha
    have hto : a.to.toNat < m.states.length := by have := hva.t0; have := hva.t1; omega
    have h1 := hc q s hq a ha i1
    have h2 := (h.b hv hs hto).resolve_left i1
    have h3 := (hs s (List.mem_of_getElem? hq)).2 a ha
    refine ⟨fun e => ?_, lle_trans h1 (by unfold lle at *; simp only at *; omega)⟩
    rw [e] at h1
    unfold lle at h1
    simp only at h1
    omega
/-- the potential -/
def rank1 (p : Int × Int) : Nat := p.1.toNat * 1000000002 + p.2.toNat
def rankL (L : List (Int × Int)) : Nat := (L.map rank1).sum
theorem rank_set (L : List (Int × Int)) (q : Nat) (hq : q < L.length) (x : Int × Int) (h : rank1 x < rank1 (tw L q)) : rankL (L.set q x) < rankL L := by
  unfold rankL
  induction L generalizing q with
  | nil => simp at hq
  | cons y L ih =>
    cases q with
    | zero =>
      simp only [List.set_cons_zero, List.map_cons, List.sum_cons]
      have : rank1 x < rank1 y := h
      omega
    | succ q =>
      simp only [List.set_cons_succ, List.map_cons, List.sum_cons]
      have := ih q (by simpa using hq) h
      omega
theorem rank_lt {a b : Int × Int} (h : llt a b) (ha : 0 ≤ a.1) (ha2 : 0 ≤ a.2) (ha3 : a.2 ≤ 1000000001) (hb : 0 ≤ b.1) (hb2 : 0 ≤ b.2) : rank1 a < rank1 b := by
  unfold rank1
  unfold llt at h
  rcases h with h | ⟨h1, h2⟩
  · have : (a.1.toNat + 1) * 1000000002 ≤ b.1.toNat * 1000000002 := Nat.mul_le_mul_right _ (by omega)
    omega
  · rw [h1]; omega
end Go.Proofs.Ytikkmoleneioeaa

namespace Go.Proofs.Ytikkmoleneioeaa

def pre1 (lab : Int) : List Int := if lab = 0 then [] else [lab]
/-- where a path has led, for what, and what was read and written -/
structure Trail where
  q : Nat
  c : Int
  x : List Int
  y : List Int
def tstep (m : MachL) (o : Option Trail) (i : Int) : Option Trail := match o with
  | none => none
  | some s => match m.states[s.q]? with
    | none => none
    | some t => if 0 ≤ i then (match t.arcs[i.toNat]? with
      | none => none
      | some a => some ⟨a.to.toNat, s.c + a.wt, s.x ++ pre1 a.inn, s.y ++ pre1 a.out⟩) else none
def trun (m : MachL) (s : Nat) (l : List Int) : Option Trail := l.foldl (tstep m) (some ⟨s, 0, [], []⟩)
theorem trun_snoc (m : MachL) (s : Nat) (l : List Int) (i : Int) : trun m s (l ++ [i]) = tstep m (trun m s l) i := by simp [trun]
theorem trun_nil (m : MachL) (s : Nat) : trun m s [] = some ⟨s, 0, [], []⟩ := rfl
theorem tfold_none (m : MachL) (l : List Int) : l.foldl (tstep m) none = none := by
  induction l with
  | nil => rfl
  | cons i l ih => exact ih
theorem trun_stop (m : MachL) (s : Nat) (l : List Int) (k : Nat) (h : trun m s (l.take k) = none) : trun m s l = none := by
  have e : l = l.take k ++ l.drop k := (List.take_append_drop k l).symm
  unfold trun at h ⊢
  rw [e, List.foldl_append, h, tfold_none]
theorem tstep_bad {m : MachL} {s : Trail} {i : Int} {t : StateL} (ht : m.states[s.q]? = some t) (h : i < 0 ∨ (t.arcs.length : Int) ≤ i) : tstep m (some s) i = none := by
  unfold tstep
  simp only [ht]
  by_cases h0 : 0 ≤ i
  · rw [if_pos h0, List.getElem?_eq_none (by omega)]
  · rw [if_neg h0]
theorem tstep_ok {m : MachL} {s : Trail} {i : Nat} {t : StateL} (ht : m.states[s.q]? = some t) (h : i < t.arcs.length) : tstep m (some s) i = some ⟨t.arcs[i].to.toNat, s.c + t.arcs[i].wt, s.x ++ pre1 t.arcs[i].inn, s.y ++ pre1 t.arcs[i].out⟩ := by
  unfold tstep
  simp only [ht]
  rw [if_pos (by omega)]
  simp [h]
theorem tfold_tw {m : MachL} {A B : Int} : ∀ (l : List Int) (s0 s1 : Trail), l.foldl (tstep m) (some s0) = some s1 → Tw m s1.q A B → Tw m s0.q (s1.c - s0.c + A) (l.length + B) := by
  intro l
  induction l with
  | nil =>
    intro s0 s1 h ht
    cases h
    have e : s0.c - s0.c + A = A := by omega
    simpa [e] using ht
  | cons i l ih =>
    intro s0 s1 h ht
    simp only [List.foldl_cons] at h
    cases hs : tstep m (some s0) i with
    | none => rw [hs, tfold_none] at h; cases h
    | some s2 =>
      rw [hs] at h
      have h2 := ih s2 s1 h ht
      unfold tstep at hs
      cases hst : m.states[s0.q]? with
      | none => simp only [hst] at hs; cases hs
      | some t =>
        simp only [hst] at hs
        by_cases h0 : 0 ≤ i
        · rw [if_pos h0] at hs
          cases ha : t.arcs[i.toNat]? with
          | none => simp only [ha] at hs; cases hs
          | some a =>
            simp only [ha] at hs
            cases hs
            have h3 := Tw.arc hst (List.mem_of_getElem? ha) h2
            have e1 : a.wt + (s1.c - (s0.c + a.wt) + A) = s1.c - s0.c + A := by omega
            have e2 : (1 : Int) + (l.length + B) = ((i :: l).length : Int) + B := by rw [List.length_cons]; omega
            simp only [e1, e2] at h3
            exact h3
        · rw [if_neg h0] at hs; cases hs
/-- a path that ends -/
theorem trun_tw {m : MachL} {s : Nat} {l : List Int} {t : Trail} {z : StateL} (h : trun m s l = some t) (hz : m.states[t.q]? = some z) (hf : z.final ≠ 1000000001) : Tw m s (t.c + z.final) l.length := by
  have := tfold_tw l _ _ h (Tw.fin hz hf)
  have e : t.c - 0 + z.final = t.c + z.final := by omega
  simpa [e] using this
theorem trun_q {m : MachL} (hv : Valid m) {s : Nat} (hs : s < m.states.length) : ∀ (k : Nat) (l : List Int) (t : Trail), l.length = k → trun m s l = some t → t.q < m.states.length := by
  intro k
  induction k with
  | zero => intro l t hl h; rw [List.eq_nil_of_length_eq_zero hl] at h; cases h; exact hs
  | succ k ih =>
    intro l t hl h
    have hne : l ≠ [] := fun e => by rw [e] at hl; simp at hl
    obtain ⟨l0, i, rfl⟩ : ∃ l0 i, l = l0 ++ [i] := ⟨_, _, (List.dropLast_concat_getLast hne).symm⟩
    rw [trun_snoc] at h
    cases h0 : trun m s l0 with
    | none => rw [h0] at h; cases h
    | some t0 =>
      rw [h0] at h
      unfold tstep at h
      cases hst : m.states[t0.q]? with
      | none => simp only [hst] at h; cases h
      | some z =>
        simp only [hst] at h
        by_cases hi : 0 ≤ i
        · rw [if_pos hi] at h
          cases ha : z.arcs[i.toNat]? with
          | none => simp only [ha] at h; cases h
          | some a =>
            simp only [ha] at h
            cases h
            have hva := (hv.st _ (List.mem_of_getElem? hst)).2 a (List.mem_of_getElem? ha)
            have := hva.t0; have := hva.t1
            simp only
            omega
        · rw [if_neg hi] at h; cases h
section
variable {m : MachL} {L : List (Int × Int)}
/-- from a state that can end, and does not end here, an arc leads on -/
theorem best_step (h : EInv m L) (hc : BClosed m L) (hv : Valid m) (hsm : BSmall m) {q : Nat} {s : StateL} (hs : m.states[q]? = some s) (hne : tw L q ≠ none2) (hB : 0 < (tw L q).2) : ∃ i, ∃ hi : i < s.arcs.length, tw L s.arcs[i].to.toNat ≠ none2 ∧ tw L q = (s.arcs[i].wt + (tw L s.arcs[i].to.toNat).1, 1 + (tw L s.arcs[i].to.toNat).2) := by
  obtain ⟨hq, hqe⟩ := List.getElem?_eq_some_iff.1 hs
  obtain ⟨vs, hn, hw⟩ := (h.ok q hq).resolve_left hne
  generalize hA : (tw L q).1 = A at hw
  generalize hBB : (tw L q).2 = B at hw
  cases hw with
  | fin hs' hf _ => omega
  | @arc _ s' a vs A' B' hs' ha hw' hle =>
    rw [hs] at hs'
    cases hs'
    obtain ⟨i, hi, rfl⟩ := List.getElem_of_mem ha
    have h1 : ∀ A B vs, Walk m (tw L) s.arcs[i].to.toNat vs A B → lle (tw L s.arcs[i].to.toNat) (A, B) := fun A B vs hw => by
      cases hw with
      | fin _ _ h => exact h
      | arc _ _ _ h => exact h
    have h2 := h1 _ _ _ hw'
    have h3 : tw L s.arcs[i].to.toNat ≠ none2 := by
      intro e
      rw [e] at h2
      have h4 := (hv.st _ (List.mem_of_getElem? hs)).2 _ ha
      have h5 := hw'.nn hv
      unfold lle at h2
      simp only at h2
      have h8 := (h.b hv hsm hq).resolve_left hne
      have := h4.w0
      omega
    refine ⟨i, hi, h3, ?_⟩
    have h4 := hc q s hs _ ha h3
    unfold lle at h2 h4
    simp only at h2 h4
    apply Prod.ext
    · simp only; omega
    · simp only; omega
/-- an arc that matches leads on -/
theorem best_match {q tn : Nat} {wt X Y : Int} (hne : tw L q ≠ none2)
    (hX : (tw L tn = none2 ∧ X = 1000000001 ∧ Y = 1000000001) ∨ (tw L tn ≠ none2 ∧ X = wt + (tw L tn).1 ∧ Y = 1 + (tw L tn).2)) (e1 : X = (tw L q).1) (e2 : Y = (tw L q).2) :
    tw L tn ≠ none2 ∧ wt + (tw L tn).1 = (tw L q).1 ∧ 1 + (tw L tn).2 = (tw L q).2 := by
  rcases hX with ⟨h1, h2, h3⟩ | ⟨h1, h2, h3⟩
  · exact absurd (Prod.ext (by simp only; omega) (by simp only; omega)) hne
  · exact ⟨h1, by omega, by omega⟩
/-- where no arcs are left an end is -/
theorem best_end (h : EInv m L) (hv : Valid m) {q : Nat} {s : StateL} (hs : m.states[q]? = some s) (hne : tw L q ≠ none2) (hB : (tw L q).2 ≤ 0) : s.final ≠ 1000000001 ∧ s.final = (tw L q).1 := by
  obtain ⟨hq, hqe⟩ := List.getElem?_eq_some_iff.1 hs
  obtain ⟨vs, hn, hw⟩ := (h.ok q hq).resolve_left hne
  generalize hA : (tw L q).1 = A at hw
  generalize hBB : (tw L q).2 = B at hw
  cases hw with
  | fin hs' hf _ =>
    rw [hs] at hs'
    cases hs'
    exact ⟨hf, rfl⟩
  | arc hs' ha hw' hle =>
    have := (hw'.nn hv).2.1
    omega
/-- ways, by twins and by sums -/
theorem tw_way (hv : Valid m) {q : Nat} {A B : Int} (h : Tw m q A B) : Way (endsFirst m) (endsE m) q A := by
  induction h with
  | @fin q s hs hf =>
    obtain ⟨hq, rfl⟩ := List.getElem?_eq_some_iff.1 hs
    exact ends_start hq hf
  | @arc q s a A B hs ha _ ih =>
    obtain ⟨hq, rfl⟩ := List.getElem?_eq_some_iff.1 hs
    have := ends_step hv (hp := hq) ha ih
    rwa [Int.add_comm] at this
theorem way_tw (hv : Valid m) {q : Nat} {c : Int} (h : Way (endsFirst m) (endsE m) q c) : ∃ B, Tw m q c B := by
  induction h with
  | @start q hq hw =>
    have hq' : q < m.states.length := by simpa [endsFirst] using hq
    have hf : m.states[q].final ≠ 1000000001 := by simpa [endsFirst, gE] using hw
    have e : (endsFirst m)[q] = m.states[q].final := by simp [endsFirst, gE]
    rw [e]
    exact ⟨0, Tw.fin (List.getElem?_eq_getElem hq') hf⟩
  | @step p q c w h he ih =>
    obtain ⟨B, hB⟩ := ih
    obtain ⟨p', hp, a, ha, e⟩ := (Ends_mem hv p _).1 he
    unfold fE at e
    injection e with e1 e2
    injection e2 with e2 e3
    subst e1; subst e2; subst e3
    have := Tw.arc (List.getElem?_eq_getElem hp) ha hB
    rw [Int.add_comm] at this
    exact ⟨_, this⟩
/-- the least cost is the best twin's -/
theorem best_least (h : EInv m L) (hc : BClosed m L) (hv : Valid m) (hsm : BSmall m) {q : Nat} (hq : q < m.states.length) {D : Int}
    (hD : (D = 1000000001 ∧ ∀ c, ¬ Way (endsFirst m) (endsE m) q c) ∨ (0 ≤ D ∧ D ≤ 100000000 ∧ Way (endsFirst m) (endsE m) q D ∧ ∀ c, Way (endsFirst m) (endsE m) q c → D ≤ c)) :
    (D = 1000000001 ∧ ∀ A B, ¬ Tw m q A B) ∨ (0 ≤ D ∧ D ≤ 100000000 ∧ tw L q ≠ none2 ∧ (tw L q).1 = D ∧ 0 ≤ (tw L q).2 ∧ (tw L q).2 < m.states.length ∧ ∀ A B, Tw m q A B → lle (tw L q) (A, B)) := by
  rcases hD with ⟨h1, h2⟩ | ⟨h1, h2, h3, h4⟩
  · exact .inl ⟨h1, fun A B ht => h2 _ (tw_way hv ht)⟩
  · right
    obtain ⟨B, hB⟩ := way_tw hv h3
    obtain ⟨g1, g2⟩ := hc.least h hv hsm hB
    obtain ⟨vs, hn, hw⟩ := (h.ok q hq).resolve_left g1
    have g3 := h4 _ (tw_way hv hw.tw)
    have g4 := (h.b hv hsm hq).resolve_left g1
    refine ⟨h1, h2, g1, ?_, g4.2.2.1, g4.2.2.2.1, fun A B ht => (hc.least h hv hsm ht).2⟩
    unfold lle at g2
    simp only at g2
    omega
end
end Go.Proofs.Ytikkmoleneioeaa
