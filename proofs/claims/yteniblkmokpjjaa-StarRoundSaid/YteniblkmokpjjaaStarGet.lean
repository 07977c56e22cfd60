/- Star's states (plain). -/
import Derived.Test.YteniblkmokpjjaaConcatGet
import Derived.Test.YteniblkmokpjjaaStar
namespace Go.Proofs.Yteniblkmokpjjaa

section
variable {a : MachL}
theorem star_len (a : MachL) : (starM a).states.length = 1 + a.states.length := by simp [starM, looseN_len, star3_len]; omega
theorem star3_get (a : MachL) (i : Nat) : (star3 a)[i]? = if i = 0 then some ⟨0, hopL a 1⟩ else (a.states[i - 1]?).map (movS 1) := by
  have base : ∀ i, i ≠ 0 → (star2 a)[i]? = (a.states[i - 1]?).map (movS 1) := by
    intro i hi
    unfold star2
    rw [List.getElem?_append_right (by simp; omega)]
    simp
  unfold star3 hopL
  by_cases hs : 0 ≤ a.start
  · rw [if_pos hs, if_pos hs, addS_eq _ _ (by simp [star2])]
    by_cases hi : i = 0
    · subst hi
      rw [if_pos rfl, List.getElem?_set_self (by simp [star2])]
      simp [star2]
    · rw [if_neg hi, List.getElem?_set_ne (fun e => hi e.symm), base i hi]
  · rw [if_neg hs, if_neg hs]
    by_cases hi : i = 0
    · subst hi; simp [star2]
    · rw [if_neg hi, base i hi]
theorem star_get0 (a : MachL) : (starM a).states[0]? = some ⟨0, hopL a 1⟩ := by
  show (looseN (star3 a) 1 a.states.length 0)[0]? = _
  unfold looseN
  rw [List.getElem?_mapIdx, star3_get, if_pos rfl]
  simp
theorem star_get1 (a : MachL) (q : Nat) (hq : q < a.states.length) : (starM a).states[1 + q]? = (a.states[q]?).map (fun s => looseS 0 (movS 1 s)) := by
  show (looseN (star3 a) 1 a.states.length 0)[1 + q]? = _
  unfold looseN
  rw [List.getElem?_mapIdx, star3_get, if_neg (by omega), show 1 + q - 1 = q by omega, List.getElem?_eq_getElem hq]
  simp only [Option.map_some]
  rw [if_pos (by omega)]
theorem star_lemb (a : MachL) : LEmb a (starM a) 1 0 := fun q s hs => by
  rw [star_get1 a q (List.getElem?_eq_some_iff.1 hs).1, hs]; rfl
theorem star_mem (a : MachL) {s : StateL} (h : s ∈ (starM a).states) : s = ⟨0, hopL a 1⟩ ∨ ∃ s0 ∈ a.states, s = looseS 0 (movS 1 s0) := by
  obtain ⟨i, hi, rfl⟩ := List.getElem_of_mem h
  have hg := List.getElem?_eq_getElem hi
  rw [star_len] at hi
  by_cases h0 : i = 0
  · subst h0
    rw [star_get0] at hg
    exact .inl (Option.some.inj hg).symm
  · obtain ⟨q, rfl⟩ : ∃ q, i = 1 + q := ⟨i - 1, by omega⟩
    have hq : q < a.states.length := by omega
    rw [star_get1 a q hq, List.getElem?_eq_getElem hq] at hg
    exact .inr ⟨_, List.getElem_mem hq, (Option.some.inj hg).symm⟩
theorem hop_len (m : MachL) (d : Nat) : (hopL m d).length ≤ 1 := by unfold hopL; split <;> simp
theorem star_valid (ha : Valid a) (hn : 1 + a.states.length ≤ 60) (hc : arcsOf a.states + 2 * a.states.length + 2 ≤ 400) : Valid (starM a) := by
  refine ⟨by rw [star_len]; exact hn, ?_, by simp [starM], by rw [star_len]; simp [starM]; omega, fun s hs => ?_⟩
  · have h1 := arcsOf_looseN (star3 a) 1 a.states.length 0
    have h2 : arcsOf (star3 a) ≤ arcsOf a.states + 1 := by
      have h3 : arcsOf (star2 a) = arcsOf a.states := by
        unfold star2; rw [arcsOf_append, arcsOf_mov]; simp [arcsOf]
      unfold star3
      split
      · rw [arcsOf_addS _ _ (by simp [star2]), h3]; exact Nat.le_refl _
      · omega
    have h3 := star3_len a
    show arcsOf (looseN (star3 a) 1 a.states.length 0) ≤ 400
    omega
  · rw [star_len]
    rcases star_mem a hs with rfl | ⟨s0, h0, rfl⟩
    · refine ⟨.inl ⟨by simp, by simp⟩, fun e he => ?_⟩
      have s1 := ha.s1
      obtain ⟨h0, rfl⟩ := hop_mem he
      exact ⟨by simp, by simp, by simp, by simp, by simp, by simp, by simp only; omega, by simp only; omega⟩
    · exact loose_valid (by omega) (mov_valid (d := 1) (by omega) (ha.st s0 h0))
end
end Go.Proofs.Yteniblkmokpjjaa
