/- script (plain): what was shown is read as it was. -/
import Derived.Test.YtkmnacchiagipaaDoorScriptFixedWalk
import Derived.Test.YtkmnacchiagipaaDoorPick
namespace Go.Proofs.YtkmnacchiagipaaDoor
open Go.RowKit

theorem pick_range (n m : Int) (hm : 1 ≤ m) : 0 ≤ pick n m ∧ pick n m < m := ⟨pick_lo n m hm, pick_hi n m hm⟩
def nmT (n : Int) : List UInt8 := [UInt8.ofNat (97 + (pick n 4).toNat)]
/-- a step of raw numbers -/
def stepT (k d a b n : Int) : StepL :=
  if 1 + pick k 15 = 1 then ⟨1, pick d 26, 0, 0, nmT n⟩ else if 1 + pick k 15 = 15 then ⟨15, 0, pick a 26, 0, nmT n⟩
  else if 1 + pick k 15 = 2 ∨ 1 + pick k 15 = 3 ∨ 1 + pick k 15 = 9 then ⟨1 + pick k 15, pick d 26, pick a 26, pick b 26, []⟩ else ⟨1 + pick k 15, pick d 26, pick a 26, 0, []⟩
def letU (n : Int) : UInt8 := UInt8.ofNat (97 + n.toNat)
theorem letU_at (n : Int) (h0 : 0 ≤ n) (h1 : n ≤ 25) : ((letU n).toNat : Int) - 97 = n ∧ letU n ≠ 32 ∧ letU n ≠ 10 := by
  obtain ⟨m, rfl⟩ : ∃ m : Nat, n = m := ⟨n.toNat, by omega⟩
  have key : ∀ m : Fin 26, ((letU (m.val : Int)).toNat : Int) - 97 = m.val ∧ letU (m.val : Int) ≠ 32 ∧ letU (m.val : Int) ≠ 10 := by decide
  exact key ⟨m, by omega⟩
theorem nmT_ok (n : Int) : nameB (nmT n) = true ∧ noSp (nmT n) := by
  have h := pick_range n 4 (by omega)
  unfold nmT
  obtain ⟨m, hm⟩ : ∃ m : Nat, pick n 4 = m := ⟨(pick n 4).toNat, by omega⟩
  rw [hm]
  have key : ∀ m : Fin 4, nameB [UInt8.ofNat (97 + ((m.val : Int)).toNat)] = true ∧ ∀ b ∈ [UInt8.ofNat (97 + ((m.val : Int)).toNat)], b ≠ 32 ∧ b ≠ 10 := by decide
  exact key ⟨m, by omega⟩
/-- what stands behind a form's word -/
def fieldS (s : StepL) (c : UInt8) : List UInt8 := if c = 110 then s.name else [letU (getF s c.toNat)]
def clearF (st : StepL) (c : UInt8) : StepL := if c = 110 then { st with name := [] } else setF st c.toNat 0
theorem shownA_eq (s : StepL) : ∀ (ags line : List UInt8) (rest : StepL) (l : List UInt8) (r : StepL), shownA s ags line rest = .inr (l, r) →
    l = line ++ (ags.map (fieldS s)).flatMap (fun f => 32 :: f) ∧ r = ags.foldl clearF rest ∧ ∀ c ∈ ags, c ≠ 110 → 0 ≤ getF s c.toNat ∧ getF s c.toNat ≤ 25
  | [], line, rest, l, r, h => by
    simp only [shownA, Sum.inr.injEq, Prod.mk.injEq] at h
    simp [h.1, h.2]
  | c :: cs, line, rest, l, r, h => by
    unfold shownA at h
    by_cases h1 : c = 110
    · rw [if_pos h1] at h
      by_cases h2 : nameB s.name = true
      · rw [if_pos h2] at h
        obtain ⟨k1, k2, k3⟩ := shownA_eq s cs _ _ _ _ h
        refine ⟨?_, ?_, fun y hy hn => ?_⟩
        · rw [k1]; simp [fieldS, h1]
        · rw [k2, List.foldl_cons]; simp [clearF, h1]
        · rcases List.mem_cons.1 hy with rfl | hy
          · exact absurd h1 hn
          · exact k3 y hy hn
      · rw [if_neg h2] at h; cases h
    · rw [if_neg h1] at h
      by_cases h2 : getF s c.toNat < 0 ∨ 25 < getF s c.toNat
      · rw [if_pos h2] at h; cases h
      · rw [if_neg h2] at h
        obtain ⟨k1, k2, k3⟩ := shownA_eq s cs _ _ _ _ h
        refine ⟨?_, ?_, fun y hy hn => ?_⟩
        · rw [k1]; simp [fieldS, h1, letU]
        · rw [k2, List.foldl_cons]; simp [clearF, h1]
        · rcases List.mem_cons.1 hy with rfl | hy
          · omega
          · exact k3 y hy hn
theorem join_fields (x : List UInt8) (r : List (List UInt8)) : Lib.join (x :: r) [32] = x ++ r.flatMap (fun f => 32 :: f) := by
  induction r generalizing x with
  | nil => simp [Lib.join_one]
  | cons y r ih =>
    have e : Lib.join (x :: y :: r) [32] = x ++ 32 :: Lib.join (y :: r) [32] := by simp [Lib.join, List.intercalate, List.intersperse]
    rw [e, ih]; simp
/-- a shown step: its form, its line, its fields -/
theorem shownS_eq {s : StepL} {t : List UInt8} (h : shownS s = .inr t) : ∃ k : Nat, k < 15 ∧ s.kind = (k : Int) + 1 ∧ t = lineL (wordF k :: (argsF k).map (fieldS s)) ∧ (argsF k).foldl clearF { s with kind := 0 } = zeroS ∧ ∀ c ∈ argsF k, c ≠ 110 → 0 ≤ getF s c.toNat ∧ getF s c.toNat ≤ 25 := by
  have hk := (shownS_len h).1
  unfold shownS at h
  rw [if_neg (by omega)] at h
  refine ⟨(s.kind - 1).toNat, by omega, by omega, ?_⟩
  generalize (s.kind - 1).toNat = k at *
  cases hA : shownA s (argsF k) (wordF k) { s with kind := 0 } with
  | inl e => rw [hA] at h; cases h
  | inr p =>
    obtain ⟨l, r⟩ := p
    rw [hA] at h
    unfold endA at h
    obtain ⟨k1, k2, k3⟩ := shownA_eq _ _ _ _ _ _ hA
    by_cases hz : r = zeroS
    · simp only [hz, if_true, Sum.inr.injEq] at h
      refine ⟨?_, by rw [← k2, hz], k3⟩
      unfold lineL
      rw [← h, k1, join_fields]
    · simp only [hz, if_false] at h; cases h
theorem word_noSp15 (k : Nat) (h : k < 15) : ∀ b ∈ wordF k, b ≠ 32 ∧ b ≠ 10 := by
  have key : ∀ k : Fin 15, ∀ b ∈ wordF k.val, b ≠ 32 ∧ b ≠ 10 := by decide
  exact key ⟨k, h⟩
theorem word_inj (j k : Nat) (hj : j < 15) (hk : k < 15) (h : wordF j = wordF k) : j = k := by
  have key : ∀ j k : Fin 15, wordF j.val = wordF k.val → j.val = k.val := by decide
  exact key ⟨j, hj⟩ ⟨k, hk⟩ h
theorem fields_noSp {s : StepL} (hn : noSp s.name) {ags : List UInt8} (h : ∀ c ∈ ags, c ≠ 110 → 0 ≤ getF s c.toNat ∧ getF s c.toNat ≤ 25) : ∀ y ∈ ags.map (fieldS s), noSp y := fun y hy => by
  obtain ⟨c, hc, rfl⟩ := List.mem_map.1 hy
  unfold fieldS
  by_cases h1 : c = 110
  · rw [if_pos h1]; exact hn
  · rw [if_neg h1]
    intro b hb
    obtain rfl := List.mem_singleton.1 hb
    have := h c hc h1
    exact (letU_at _ this.1 this.2).2
theorem fill_back {s : StepL} {k : Nat} (hk : k < 15) (h1 : s.kind = (k : Int) + 1) (hz : (argsF k).foldl clearF { s with kind := 0 } = zeroS) (h : ∀ c ∈ argsF k, c ≠ 110 → 0 ≤ getF s c.toNat ∧ getF s c.toNat ≤ 25) :
    fillS ⟨(k : Int) + 1, 0, 0, 0, []⟩ (argsF k) ((argsF k).map (fieldS s)) = s := by
  obtain ⟨kd, d, a, b, nm⟩ := s
  simp only at h1
  subst h1
  have hforms : argsF k = [116, 110] ∨ argsF k = [116, 97, 98] ∨ argsF k = [116, 97] ∨ argsF k = [97, 110] := by
    have key : ∀ k : Fin 15, argsF k.val = [116, 110] ∨ argsF k.val = [116, 97, 98] ∨ argsF k.val = [116, 97] ∨ argsF k.val = [97, 110] := by decide
    exact key ⟨k, hk⟩
  rcases hforms with e | e | e | e <;> rw [e] at hz h ⊢ <;>
    simp [clearF, setF, zeroS, fieldS, fillS, putS, getF] at hz h ⊢ <;> simp [*] <;>
    first
    | exact (letU_at _ (by omega) (by omega)).1
    | exact ⟨(letU_at _ (by omega) (by omega)).1, (letU_at _ (by omega) (by omega)).1⟩
    | exact ⟨(letU_at _ (by omega) (by omega)).1, (letU_at _ (by omega) (by omega)).1, (letU_at _ (by omega) (by omega)).1⟩
theorem step_back {s : StepL} {t : List UInt8} (h : shownS s = .inr t) (hn : noSp s.name) : stepOf t = s := by
  obtain ⟨k, hk, h1, rfl, hz, hr⟩ := shownS_eq h
  have hsp : ∀ y ∈ wordF k :: (argsF k).map (fieldS s), (32 : UInt8) ∉ y := fun y hy hm => by
    rcases List.mem_cons.1 hy with rfl | hy
    · exact (word_noSp15 k hk _ hm).1 rfl
    · exact (fields_noSp hn hr y hy _ hm).1 rfl
  have hw := words_line (wordF k) ((argsF k).map (fieldS s)) hsp
  unfold wordsOf at hw
  unfold stepOf
  rw [hw, stepW_at hk (by simp [isF]) fun j hj => ?_]
  · exact fill_back hk h1 hz hr
  · simp only [isF, List.getD_cons_zero, decide_eq_false_iff_not, not_and]
    intro e
    have := word_inj j k (by omega) hk e; omega
theorem step_line {s : StepL} {t : List UInt8} (h : shownS s = .inr t) (hn : noSp s.name) (r : List UInt8) : linesL (t ++ r) = t :: linesL r := by
  obtain ⟨k, hk, h1, rfl, hz, hr⟩ := shownS_eq h
  unfold lineL
  refine linesL_line _ r fun hm => ?_
  rw [join_fields] at hm
  rcases List.mem_append.1 hm with hm | hm
  · exact (word_noSp15 k hk _ hm).2 rfl
  · obtain ⟨f, hf, hm⟩ := List.mem_flatMap.1 hm
    rcases List.mem_cons.1 hm with hm | hm
    · exact absurd hm (by decide)
    · exact (fields_noSp hn hr f hf _ hm).2 rfl
theorem script_lines {l : List StepL} (h : ∀ s ∈ l, shownS s = .inr (txtS s) ∧ noSp s.name) : linesL (scriptT txtS l) = l.map txtS := by
  induction l with
  | nil => rfl
  | cons s l ih =>
    unfold scriptT
    rw [List.flatMap_cons, step_line (h s (by simp)).1 (h s (by simp)).2]
    have := ih fun x hx => h x (by simp [hx])
    unfold scriptT at this
    rw [this]; rfl
theorem script_back {l : List StepL} (h30 : l.length ≤ 30) (h : ∀ s ∈ l, shownS s = .inr (txtS s) ∧ noSp s.name) : ScrOk (scriptT txtS l) ∧ (linesL (scriptT txtS l)).map stepOf = l := by
  rw [show ScrOk (scriptT txtS l) = ((linesL (scriptT txtS l)).length ≤ 30 ∧ ∀ x ∈ linesL (scriptT txtS l), shownS (stepOf x) = .inr x) from rfl, script_lines h]
  refine ⟨⟨by simpa using h30, fun x hx => ?_⟩, ?_⟩
  · obtain ⟨s, hs, rfl⟩ := List.mem_map.1 hx
    rw [step_back (h s hs).1 (h s hs).2]; exact (h s hs).1
  · rw [List.map_map]
    have : l.map (stepOf ∘ txtS) = l.map id := List.map_congr_left fun s hs => step_back (h s hs).1 (h s hs).2
    rw [this, List.map_id]
theorem stepT_ok (k d a b n : Int) : shownS (stepT k d a b n) = .inr (txtS (stepT k d a b n)) ∧ noSp (stepT k d a b n).name := by
  have h1 := pick_range k 15 (by omega); have h2 := pick_range d 26 (by omega); have h3 := pick_range a 26 (by omega); have h4 := pick_range b 26 (by omega)
  obtain ⟨q1, q2⟩ := nmT_ok n
  have key : ∀ s : StepL, (∃ t, shownS s = .inr t) → noSp s.name → shownS s = .inr (txtS s) ∧ noSp s.name := fun s ⟨t, ht⟩ hn => ⟨by rw [txtS_of ht]; exact ht, hn⟩
  unfold stepT
  generalize pick k 15 = k at *
  generalize pick d 26 = d at *
  generalize pick a 26 = a at *
  generalize pick b 26 = b at *
  generalize nmT n = nm at *
  have nd : ¬ (d < 0 ∨ 25 < d) := by omega
  have na : ¬ (a < 0 ∨ 25 < a) := by omega
  have nb : ¬ (b < 0 ∨ 25 < b) := by omega
  have nul : noSp [] := fun b hb => by simp at hb
  rcases (by omega : k = 0 ∨ k = 1 ∨ k = 2 ∨ k = 3 ∨ k = 4 ∨ k = 5 ∨ k = 6 ∨ k = 7 ∨ k = 8 ∨ k = 9 ∨ k = 10 ∨ k = 11 ∨ k = 12 ∨ k = 13 ∨ k = 14) with rfl | rfl | rfl | rfl | rfl | rfl | rfl | rfl | rfl | rfl | rfl | rfl | rfl | rfl | rfl <;>
    (refine key _ ?_ ?_
     · simp [shownS, argsF, wordF, formsL, shownA, getF, setF, endA, zeroS, q1, nd, na, nb]
     · simp <;> first | exact q2 | exact nul)
end Go.Proofs.YtkmnacchiagipaaDoor
