/- Star's costs (plain). -/
import Derived.Test.YtphoioejhdjbaaaConcatCost
import Derived.Test.YtphoioejhdjbaaaStar
namespace Go.Proofs.Ytphoioejhdjbaaa

section
variable {a : MachL}
theorem star_len (a : MachL) : (starM a).states.length = 1 + a.states.length := by simp [starM, looseN_len, star3_len]; omega
theorem star3_get (a : MachL) (i : Nat) : (star3 a)[i]? = if i = 0 then some ⟨0, hopL a 1⟩ else (a.states[i - 1]?).map (movS 1) := by
  have base : ∀ i, i ≠ 0 → (star2 a)[i]? = (a.states[i - 1]?).map (movS 1) := by
    intro i hi
    unfold star2
    rw [List.getElem?_append_right (by simp; omega)]
    simp
  unfold star3 hopL
  by_cases hs : 0 ≤ a.start
  · rw [if_pos hs, if_pos hs, addS_eq _ _ (by simp [star2])]
    by_cases hi : i = 0
    · subst hi
      rw [if_pos rfl, List.getElem?_set_self (by simp [star2])]
      simp [star2]
    · rw [if_neg hi, List.getElem?_set_ne (fun e => hi e.symm), base i hi]
  · rw [if_neg hs, if_neg hs]
    by_cases hi : i = 0
    · subst hi; simp [star2]
    · rw [if_neg hi, base i hi]
theorem star_get0 (a : MachL) : (starM a).states[0]? = some ⟨0, hopL a 1⟩ := by
  show (looseN (star3 a) 1 a.states.length 0)[0]? = _
  unfold looseN
  rw [List.getElem?_mapIdx, star3_get, if_pos rfl]
  simp
theorem star_get1 (a : MachL) (q : Nat) (hq : q < a.states.length) : (starM a).states[1 + q]? = (a.states[q]?).map (fun s => looseS 0 (movS 1 s)) := by
  show (looseN (star3 a) 1 a.states.length 0)[1 + q]? = _
  unfold looseN
  rw [List.getElem?_mapIdx, star3_get, if_neg (by omega), show 1 + q - 1 = q by omega, List.getElem?_eq_getElem hq]
  simp only [Option.map_some]
  rw [if_pos (by omega)]
theorem star_lemb (a : MachL) : LEmb a (starM a) 1 0 := fun q s hs => by
  rw [star_get1 a q (List.getElem?_eq_some_iff.1 hs).1, hs]; rfl
theorem star_mem (a : MachL) {s : StateL} (h : s ∈ (starM a).states) : s = ⟨0, hopL a 1⟩ ∨ ∃ s0 ∈ a.states, s = looseS 0 (movS 1 s0) := by
  obtain ⟨i, hi, rfl⟩ := List.getElem_of_mem h
  have hg := List.getElem?_eq_getElem hi
  rw [star_len] at hi
  by_cases h0 : i = 0
  · subst h0
    rw [star_get0] at hg
    exact .inl (Option.some.inj hg).symm
  · obtain ⟨q, rfl⟩ : ∃ q, i = 1 + q := ⟨i - 1, by omega⟩
    have hq : q < a.states.length := by omega
    rw [star_get1 a q hq, List.getElem?_eq_getElem hq] at hg
    exact .inr ⟨_, List.getElem_mem hq, (Option.some.inj hg).symm⟩
theorem hop_len (m : MachL) (d : Nat) : (hopL m d).length ≤ 1 := by unfold hopL; split <;> simp
theorem star_valid (ha : Valid a) (hn : 1 + a.states.length ≤ 60) (hc : arcsOf a.states + 2 * a.states.length + 2 ≤ 400) : Valid (starM a) := by
  refine ⟨by rw [star_len]; exact hn, ?_, by simp [starM], by rw [star_len]; simp [starM]; omega, fun s hs => ?_⟩
  · have h1 := arcsOf_looseN (star3 a) 1 a.states.length 0
    have h2 : arcsOf (star3 a) ≤ arcsOf a.states + 1 := by
      have h3 : arcsOf (star2 a) = arcsOf a.states := by
        unfold star2; rw [arcsOf_append, arcsOf_mov]; simp [arcsOf]
      unfold star3
      split
      · rw [arcsOf_addS _ _ (by simp [star2]), h3]; exact Nat.le_refl _
      · omega
    have h3 := star3_len a
    show arcsOf (looseN (star3 a) 1 a.states.length 0) ≤ 400
    omega
  · rw [star_len]
    rcases star_mem a hs with rfl | ⟨s0, h0, rfl⟩
    · refine ⟨.inl ⟨by simp, by simp⟩, fun e he => ?_⟩
      have s1 := ha.s1
      obtain ⟨h0, rfl⟩ := hop_mem he
      exact ⟨by simp, by simp, by simp, by simp, by simp, by simp, by simp only; omega, by simp only; omega⟩
    · exact loose_valid (by omega) (mov_valid (d := 1) (by omega) (ha.st s0 h0))
theorem star_little {n AA : Nat} (ha : Little a n AA) : Little (starM a) (1 + n) (AA + 1) := by
  have hl : ∀ s0 ∈ a.states, (∀ e ∈ (looseS 0 (movS 1 s0)).arcs, e.wt ≤ 9) ∧ (looseS 0 (movS 1 s0)).arcs.length ≤ AA + 1 := fun s0 h0 =>
    loose_little (fun e he => by obtain ⟨a0, h1, rfl⟩ := List.mem_map.1 he; exact ha.wt s0 h0 a0 h1) (ha.fin s0 h0) (by simpa [movS] using ha.arcs s0 h0)
  refine ⟨by rw [star_len]; have := ha.len; omega, fun s hs e he => ?_, fun s hs hne => ?_, fun s hs => ?_⟩ <;> rcases star_mem a hs with rfl | ⟨s0, h0, rfl⟩
  · obtain ⟨_, rfl⟩ := hop_mem he; simp
  · exact (hl s0 h0).1 e he
  · simp
  · exact absurd rfl hne
  · have := hop_len a 1; simp only; omega
  · exact (hl s0 h0).2
/-- pieces one behind the other -/
inductive StarW (P : List Int → List Int → Int → Prop) : List Int → List Int → Int → Prop
  | nil : StarW P [] [] 0
  | cons {x1 y1 x2 y2 : List Int} {c1 c2 : Int} : P x1 y1 c1 → StarW P x2 y2 c2 → StarW P (x1 ++ x2) (y1 ++ y2) (c1 + c2)
def Piece (a : MachL) (x y : List Int) (c : Int) : Prop := Tot a x y false c
theorem star_to (ha : Valid a) {k : Nat} {x y : List Int} {c : Int} (h : AccW (starM a) k x y c) : (k = 0 → StarW (Piece a) x y c) ∧ ∀ q, k = 1 + q → q < a.states.length → ∃ x1 x2 y1 y2 c1 c2, x = x1 ++ x2 ∧ y = y1 ++ y2 ∧ AccW a q x1 y1 c1 ∧ StarW (Piece a) x2 y2 c2 ∧ c = c1 + c2 := by
  have s1 := ha.s1
  induction h with
  | @fin k s hs hf =>
    refine ⟨fun h0 => ?_, fun q hk hq => ?_⟩
    · subst h0
      rw [star_get0] at hs; cases hs
      exact .nil
    · subst hk
      rw [star_get1 a q hq, List.getElem?_eq_getElem hq] at hs
      cases hs
      exact absurd rfl hf
  | @arc k s e x y c hs he _ ih =>
    refine ⟨fun h0 => ?_, fun q hk hq => ?_⟩
    · subst h0
      rw [star_get0] at hs; cases hs
      obtain ⟨h0, rfl⟩ := hop_mem he
      obtain ⟨x1, x2, y1, y2, c1, c2, rfl, rfl, h3, h4, rfl⟩ := ih.2 a.start.toNat (by simp only; omega) (by omega)
      have := StarW.cons (P := Piece a) (tot_accW.2 ⟨h0, h3⟩) h4
      simpa [pre] using this
    · subst hk
      rw [star_get1 a q hq, List.getElem?_eq_getElem hq] at hs
      cases hs
      simp only [looseS] at he
      rcases List.mem_append.1 he with he | he
      · obtain ⟨a0, ha0, rfl⟩ := List.mem_map.1 he
        have hva := (ha.st _ (List.getElem_mem hq)).2 a0 ha0
        have t0 := hva.t0; have t1 := hva.t1
        obtain ⟨x1, x2, y1, y2, c1, c2, rfl, rfl, h3, h4, rfl⟩ := ih.2 a0.to.toNat (by simp only [movA]; omega) (by omega)
        exact ⟨pre a0.inn ++ x1, x2, pre a0.out ++ y1, y2, a0.wt + c1, c2, (List.append_assoc _ _ _).symm, (List.append_assoc _ _ _).symm, AccW.arc (List.getElem?_eq_getElem hq) ha0 h3, h4, by simp only [movA]; omega⟩
      · split at he
        · cases he
        · rename_i hn
          simp at he
          subst he
          exact ⟨[], x, [], y, a.states[q].final, c, by simp [pre], by simp [pre], AccW.fin (List.getElem?_eq_getElem hq) (fun e => hn (.inl (by simpa [movS] using e))), ih.1 rfl, by simp [movS]⟩
theorem star_of (ha : Valid a) {x y : List Int} {c : Int} (h : StarW (Piece a) x y c) : AccW (starM a) 0 x y c := by
  induction h with
  | nil => exact AccW.fin (s := ⟨0, hopL a 1⟩) (star_get0 a) (by show (0 : Int) ≠ INF; decide)
  | @cons x1 y1 x2 y2 c1 c2 h1 _ ih =>
    obtain ⟨h0, h1⟩ := tot_accW.1 h1
    have h2 := lemb_of (star_lemb a) ha (Int.le_refl 0) (x2 := x2) (y2 := y2) (c2 := c2) ih h1
    have e1 : (a.start + ((1 : Nat) : Int)).toNat = 1 + a.start.toNat := by omega
    have := AccW.arc (a := ⟨0, 0, 0, a.start + ((1 : Nat) : Int)⟩) (star_get0 a) (by unfold hopL; rw [if_pos h0]; simp) (by simp only; rw [e1]; exact h2)
    simpa [pre] using this
theorem star_tot (ha : Valid a) (x y : List Int) (c : Int) : Tot (starM a) x y false c ↔ StarW (Piece a) x y c := by
  rw [tot_accW]
  exact ⟨fun h => (star_to ha h.2).1 rfl, fun h => ⟨by simp [starM], star_of ha h⟩⟩
/-- a piece that is not nothing, and the star behind it; cuts up to (i, j) -/
def TQ (a : MachL) (x y : List Int) (i j : Nat) (c : Int) : Prop := ∃ i' j', i' ≤ x.length ∧ j' ≤ y.length ∧ (i' < i ∨ (i' = i ∧ j' < j)) ∧ i' + j' ≠ 0 ∧ ∃ c1 c2, Tot a (x.take i') (y.take j') false c1 ∧ Tot (starM a) (x.drop i') (y.drop j') false c2 ∧ c = c1 + c2
theorem TQ_zero (a : MachL) (x y : List Int) (c : Int) : ¬ TQ a x y 0 0 c := by
  rintro ⟨i, j, _, _, h, _⟩; omega
theorem TQ_row (a : MachL) (x y : List Int) (i : Nat) (c : Int) : TQ a x y i (y.length + 1) c ↔ TQ a x y (i + 1) 0 c := by
  constructor
  · rintro ⟨i', j', h1, h2, h3, h4⟩; exact ⟨i', j', h1, h2, by omega, h4⟩
  · rintro ⟨i', j', h1, h2, h3, h4⟩; exact ⟨i', j', h1, h2, by omega, h4⟩
theorem TQ_skip (a : MachL) (x y : List Int) (c : Int) : TQ a x y 0 0 c ↔ TQ a x y 0 1 c := by
  constructor
  · rintro ⟨i', j', h1, h2, h3, h4⟩; exact ⟨i', j', h1, h2, by omega, h4⟩
  · rintro ⟨i', j', h1, h2, h3, h4, h5⟩; omega
theorem TQ_succ (a : MachL) (x y : List Int) (i j : Nat) (hi : i ≤ x.length) (hj : j ≤ y.length) (hn : i + j ≠ 0) (c : Int) : TQ a x y i j c ∨ (∃ c1 c2, Tot a (x.take i) (y.take j) false c1 ∧ Tot (starM a) (x.drop i) (y.drop j) false c2 ∧ c = c1 + c2) ↔ TQ a x y i (j + 1) c := by
  constructor
  · rintro (⟨i', j', h1, h2, h3, h4⟩ | h)
    · exact ⟨i', j', h1, h2, by omega, h4⟩
    · exact ⟨i, j, hi, hj, by omega, hn, h⟩
  · rintro ⟨i', j', h1, h2, h3, h4, h5⟩
    by_cases e : i' = i ∧ j' = j
    · obtain ⟨rfl, rfl⟩ := e; exact .inr h5
    · exact .inl ⟨i', j', h1, h2, by omega, h4, h5⟩
theorem star_first (ha : Valid a) {x y : List Int} {c : Int} (h : StarW (Piece a) x y c) : x.length + y.length ≠ 0 → ∃ c', c' ≤ c ∧ TQ a x y (x.length + 1) 0 c' := by
  induction h with
  | nil => intro h; simp at h
  | @cons x1 y1 x2 y2 c1 c2 h1 h2 ih =>
    intro hn
    by_cases h0 : x1.length + y1.length = 0
    · have e1 : x1 = [] := List.eq_nil_of_length_eq_zero (by omega)
      have e2 : y1 = [] := List.eq_nil_of_length_eq_zero (by omega)
      subst e1; subst e2
      simp only [List.nil_append] at hn ⊢
      obtain ⟨c', h3, h4⟩ := ih hn
      have := Tot.nonneg ha h1
      exact ⟨c', by omega, h4⟩
    · refine ⟨c1 + c2, Int.le_refl _, x1.length, y1.length, by simp, by simp, by simp; omega, h0, c1, c2, ?_, ?_, rfl⟩
      · simp only [List.take_left]; exact h1
      · simp only [List.drop_left]; exact (star_tot ha _ _ _).2 h2
theorem TQ_tot (ha : Valid a) {x y : List Int} {c : Int} (h : TQ a x y (x.length + 1) 0 c) : Tot (starM a) x y false c := by
  obtain ⟨i, j, _, _, _, _, c1, c2, h1, h2, rfl⟩ := h
  rw [star_tot ha] at h2 ⊢
  have := StarW.cons (P := Piece a) h1 h2
  rwa [List.take_append_drop, List.take_append_drop] at this
theorem star_best (ha : Valid a) {x y : List Int} {r r' : Int} (hn : x.length + y.length ≠ 0) (h : Best (Tot (starM a) x y false) r) (h' : BestB (TQ a x y (x.length + 1) 0) r') : r = r' := by
  refine h.toB.eq ?_
  rcases h' with ⟨h1, h2⟩ | ⟨h1, h2, h3⟩
  · exact .inl ⟨h1, fun c hc => by obtain ⟨c', _, h4⟩ := star_first ha ((star_tot ha _ _ _).1 hc) hn; exact h2 c' h4⟩
  · exact .inr ⟨TQ_tot ha h1, fun c hc => by obtain ⟨c', h3, h4⟩ := star_first ha ((star_tot ha _ _ _).1 hc) hn; have := h2 c' h4; omega, h3⟩
theorem star_nil (ha : Valid a) : Best (Tot (starM a) [] [] false) 0 :=
  .inr ⟨(star_tot ha _ _ _).2 .nil, fun c hc => by
    have h := (star_tot ha _ _ _).1 hc
    have key : ∀ {x y : List Int} {c : Int}, StarW (Piece a) x y c → 0 ≤ c := by
      intro x y c h
      induction h with
      | nil => exact Int.le_refl _
      | cons h1 _ ih => have := Tot.nonneg ha h1; omega
    exact key h, by omega⟩
end
end Go.Proofs.Ytphoioejhdjbaaa
