/- Paths as numbers of arcs (plain). -/
import Derived.Test.YtndajklppipckaaBestPlain
namespace Go.Proofs.Ytndajklppipckaa

def pre1 (lab : Int) : List Int := if lab = 0 then [] else [lab]
/-- where a path has led, for what, and what was read and written -/
structure Trail where
  q : Nat
  c : Int
  x : List Int
  y : List Int
def tstep (m : MachL) (o : Option Trail) (i : Int) : Option Trail := match o with
  | none => none
  | some s => match m.states[s.q]? with
    | none => none
    | some t => if 0 ≤ i then (match t.arcs[i.toNat]? with
      | none => none
      | some a => some ⟨a.to.toNat, s.c + a.wt, s.x ++ pre1 a.inn, s.y ++ pre1 a.out⟩) else none
def trun (m : MachL) (s : Nat) (l : List Int) : Option Trail := l.foldl (tstep m) (some ⟨s, 0, [], []⟩)
theorem trun_snoc (m : MachL) (s : Nat) (l : List Int) (i : Int) : trun m s (l ++ [i]) = tstep m (trun m s l) i := by simp [trun]
theorem trun_nil (m : MachL) (s : Nat) : trun m s [] = some ⟨s, 0, [], []⟩ := rfl
theorem tfold_none (m : MachL) (l : List Int) : l.foldl (tstep m) none = none := by
  induction l with
  | nil => rfl
  | cons i l ih => exact ih
theorem trun_stop (m : MachL) (s : Nat) (l : List Int) (k : Nat) (h : trun m s (l.take k) = none) : trun m s l = none := by
  have e : l = l.take k ++ l.drop k := (List.take_append_drop k l).symm
  unfold trun at h ⊢
  rw [e, List.foldl_append, h, tfold_none]
theorem tstep_bad {m : MachL} {s : Trail} {i : Int} {t : StateL} (ht : m.states[s.q]? = some t) (h : i < 0 ∨ (t.arcs.length : Int) ≤ i) : tstep m (some s) i = none := by
  unfold tstep
  simp only [ht]
  by_cases h0 : 0 ≤ i
  · rw [if_pos h0, List.getElem?_eq_none (by omega)]
  · rw [if_neg h0]
theorem tstep_ok {m : MachL} {s : Trail} {i : Nat} {t : StateL} (ht : m.states[s.q]? = some t) (h : i < t.arcs.length) : tstep m (some s) i = some ⟨t.arcs[i].to.toNat, s.c + t.arcs[i].wt, s.x ++ pre1 t.arcs[i].inn, s.y ++ pre1 t.arcs[i].out⟩ := by
  unfold tstep
  simp only [ht]
  rw [if_pos (by omega)]
  simp [h]
theorem tfold_tw {m : MachL} {A B : Int} : ∀ (l : List Int) (s0 s1 : Trail), l.foldl (tstep m) (some s0) = some s1 → Tw m s1.q A B → Tw m s0.q (s1.c - s0.c + A) (l.length + B) := by
  intro l
  induction l with
  | nil =>
    intro s0 s1 h ht
    cases h
    have e : s0.c - s0.c + A = A := by omega
    simpa [e] using ht
  | cons i l ih =>
    intro s0 s1 h ht
    simp only [List.foldl_cons] at h
    cases hs : tstep m (some s0) i with
    | none => rw [hs, tfold_none] at h; cases h
    | some s2 =>
      rw [hs] at h
      have h2 := ih s2 s1 h ht
      unfold tstep at hs
      cases hst : m.states[s0.q]? with
      | none => simp only [hst] at hs; cases hs
      | some t =>
        simp only [hst] at hs
        by_cases h0 : 0 ≤ i
        · rw [if_pos h0] at hs
          cases ha : t.arcs[i.toNat]? with
          | none => simp only [ha] at hs; cases hs
          | some a =>
            simp only [ha] at hs
            cases hs
            have h3 := Tw.arc hst (List.mem_of_getElem? ha) h2
            have e1 : a.wt + (s1.c - (s0.c + a.wt) + A) = s1.c - s0.c + A := by omega
            have e2 : (1 : Int) + (l.length + B) = ((i :: l).length : Int) + B := by rw [List.length_cons]; omega
            simp only [e1, e2] at h3
            exact h3
        · rw [if_neg h0] at hs; cases hs
/-- a path that ends -/
theorem trun_tw {m : MachL} {s : Nat} {l : List Int} {t : Trail} {z : StateL} (h : trun m s l = some t) (hz : m.states[t.q]? = some z) (hf : z.final ≠ 1000000001) : Tw m s (t.c + z.final) l.length := by
  have := tfold_tw l _ _ h (Tw.fin hz hf)
  have e : t.c - 0 + z.final = t.c + z.final := by omega
  simpa [e] using this
theorem trun_q {m : MachL} (hv : Valid m) {s : Nat} (hs : s < m.states.length) : ∀ (k : Nat) (l : List Int) (t : Trail), l.length = k → trun m s l = some t → t.q < m.states.length := by
  intro k
  induction k with
  | zero => intro l t hl h; rw [List.eq_nil_of_length_eq_zero hl] at h; cases h; exact hs
  | succ k ih =>
    intro l t hl h
    have hne : l ≠ [] := fun e => by rw [e] at hl; simp at hl
    obtain ⟨l0, i, rfl⟩ : ∃ l0 i, l = l0 ++ [i] := ⟨_, _, (List.dropLast_concat_getLast hne).symm⟩
    rw [trun_snoc] at h
    cases h0 : trun m s l0 with
    | none => rw [h0] at h; cases h
    | some t0 =>
      rw [h0] at h
      unfold tstep at h
      cases hst : m.states[t0.q]? with
      | none => simp only [hst] at h; cases h
      | some z =>
        simp only [hst] at h
        by_cases hi : 0 ≤ i
        · rw [if_pos hi] at h
          cases ha : z.arcs[i.toNat]? with
          | none => simp only [ha] at h; cases h
          | some a =>
            simp only [ha] at h
            cases h
            have hva := (hv.st _ (List.mem_of_getElem? hst)).2 a (List.mem_of_getElem? ha)
            have := hva.t0; have := hva.t1
            simp only
            omega
        · rw [if_neg hi] at h; cases h
section
variable {m : MachL} {L : List (Int × Int)}
/-- from a state that can end, and does not end here, an arc leads on -/
theorem best_step (h : EInv m L) (hc : BClosed m L) (hv : Valid m) (hsm : BSmall m) {q : Nat} {s : StateL} (hs : m.states[q]? = some s) (hne : tw L q ≠ none2) (hB : 0 < (tw L q).2) : ∃ i, ∃ hi : i < s.arcs.length, tw L s.arcs[i].to.toNat ≠ none2 ∧ tw L q = (s.arcs[i].wt + (tw L s.arcs[i].to.toNat).1, 1 + (tw L s.arcs[i].to.toNat).2) := by
  obtain ⟨hq, hqe⟩ := List.getElem?_eq_some_iff.1 hs
  obtain ⟨vs, hn, hw⟩ := (h.ok q hq).resolve_left hne
  generalize hA : (tw L q).1 = A at hw
  generalize hBB : (tw L q).2 = B at hw
  cases hw with
  | fin hs' hf _ => omega
  | @arc _ s' a vs A' B' hs' ha hw' hle =>
    rw [hs] at hs'
    cases hs'
    obtain ⟨i, hi, rfl⟩ := List.getElem_of_mem ha
    have h1 : ∀ A B vs, Walk m (tw L) s.arcs[i].to.toNat vs A B → lle (tw L s.arcs[i].to.toNat) (A, B) := fun A B vs hw => by
      cases hw with
      | fin _ _ h => exact h
      | arc _ _ _ h => exact h
    have h2 := h1 _ _ _ hw'
    have h3 : tw L s.arcs[i].to.toNat ≠ none2 := by
      intro e
      rw [e] at h2
      have h4 := (hv.st _ (List.mem_of_getElem? hs)).2 _ ha
      have h5 := hw'.nn hv
      unfold lle at h2
      simp only at h2
      have h8 := (h.b hv hsm hq).resolve_left hne
      have := h4.w0
      omega
    refine ⟨i, hi, h3, ?_⟩
    have h4 := hc q s hs _ ha h3
    unfold lle at h2 h4
    simp only at h2 h4
    apply Prod.ext
    · simp only; omega
    · simp only; omega
/-- an arc that matches leads on -/
theorem best_match {q tn : Nat} {wt X Y : Int} (hne : tw L q ≠ none2)
    (hX : (tw L tn = none2 ∧ X = 1000000001 ∧ Y = 1000000001) ∨ (tw L tn ≠ none2 ∧ X = wt + (tw L tn).1 ∧ Y = 1 + (tw L tn).2)) (e1 : X = (tw L q).1) (e2 : Y = (tw L q).2) :
    tw L tn ≠ none2 ∧ wt + (tw L tn).1 = (tw L q).1 ∧ 1 + (tw L tn).2 = (tw L q).2 := by
  rcases hX with ⟨h1, h2, h3⟩ | ⟨h1, h2, h3⟩
  · exact absurd (Prod.ext (by simp only; omega) (by simp only; omega)) hne
  · exact ⟨h1, by omega, by omega⟩
/-- where no arcs are left an end is -/
theorem best_end (h : EInv m L) (hv : Valid m) {q : Nat} {s : StateL} (hs : m.states[q]? = some s) (hne : tw L q ≠ none2) (hB : (tw L q).2 ≤ 0) : s.final ≠ 1000000001 ∧ s.final = (tw L q).1 := by
  obtain ⟨hq, hqe⟩ := List.getElem?_eq_some_iff.1 hs
  obtain ⟨vs, hn, hw⟩ := (h.ok q hq).resolve_left hne
  generalize hA : (tw L q).1 = A at hw
  generalize hBB : (tw L q).2 = B at hw
  cases hw with
  | fin hs' hf _ =>
    rw [hs] at hs'
    cases hs'
    exact ⟨hf, rfl⟩
  | arc hs' ha hw' hle =>
    have := (hw'.nn hv).2.1
    omega
/-- ways, by twins and by sums -/
theorem tw_way (hv : Valid m) {q : Nat} {A B : Int} (h : Tw m q A B) : Way (endsFirst m) (endsE m) q A := by
  induction h with
  | @fin q s hs hf =>
    obtain ⟨hq, rfl⟩ := List.getElem?_eq_some_iff.1 hs
    exact ends_start hq hf
  | @arc q s a A B hs ha _ ih =>
    obtain ⟨hq, rfl⟩ := List.getElem?_eq_some_iff.1 hs
    have := ends_step hv (hp := hq) ha ih
    rwa [Int.add_comm] at this
theorem way_tw (hv : Valid m) {q : Nat} {c : Int} (h : Way (endsFirst m) (endsE m) q c) : ∃ B, Tw m q c B := by
  induction h with
  | @start q hq hw =>
    have hq' : q < m.states.length := by simpa [endsFirst] using hq
    have hf : m.states[q].final ≠ 1000000001 := by simpa [endsFirst, gE] using hw
    have e : (endsFirst m)[q] = m.states[q].final := by simp [endsFirst, gE]
    rw [e]
    exact ⟨0, Tw.fin (List.getElem?_eq_getElem hq') hf⟩
  | @step p q c w h he ih =>
    obtain ⟨B, hB⟩ := ih
    obtain ⟨p', hp, a, ha, e⟩ := (Ends_mem hv p _).1 he
    unfold fE at e
    injection e with e1 e2
    injection e2 with e2 e3
    subst e1; subst e2; subst e3
    have := Tw.arc (List.getElem?_eq_getElem hp) ha hB
    rw [Int.add_comm] at this
    exact ⟨_, this⟩
/-- the least cost is the best twin's -/
theorem best_least (h : EInv m L) (hc : BClosed m L) (hv : Valid m) (hsm : BSmall m) {q : Nat} (hq : q < m.states.length) {D : Int}
    (hD : (D = 1000000001 ∧ ∀ c, ¬ Way (endsFirst m) (endsE m) q c) ∨ (0 ≤ D ∧ D ≤ 100000000 ∧ Way (endsFirst m) (endsE m) q D ∧ ∀ c, Way (endsFirst m) (endsE m) q c → D ≤ c)) :
    (D = 1000000001 ∧ ∀ A B, ¬ Tw m q A B) ∨ (0 ≤ D ∧ D ≤ 100000000 ∧ tw L q ≠ none2 ∧ (tw L q).1 = D ∧ 0 ≤ (tw L q).2 ∧ (tw L q).2 < m.states.length ∧ ∀ A B, Tw m q A B → lle (tw L q) (A, B)) := by
  rcases hD with ⟨h1, h2⟩ | ⟨h1, h2, h3, h4⟩
  · exact .inl ⟨h1, fun A B ht => h2 _ (tw_way hv ht)⟩
  · right
    obtain ⟨B, hB⟩ := way_tw hv h3
    obtain ⟨g1, g2⟩ := hc.least h hv hsm hB
    obtain ⟨vs, hn, hw⟩ := (h.ok q hq).resolve_left g1
    have g3 := h4 _ (tw_way hv hw.tw)
    have g4 := (h.b hv hsm hq).resolve_left g1
    refine ⟨h1, h2, g1, ?_, g4.2.2.1, g4.2.2.2.1, fun A B ht => (hc.least h hv hsm ht).2⟩
    unfold lle at g2
    simp only at g2
    omega
end
end Go.Proofs.Ytndajklppipckaa
