/- The states of one machine or the other (plain). -/
import Derived.Test.YtfikkpgigicepaaValid
import Derived.Test.YtfikkpgigicepaaUnion
namespace Go.Proofs.Ytfikkpgigicepaa

/-- M holds m's states from d on, their arcs moved -/
def Emb (m M : MachL) (d : Nat) : Prop := ∀ q s, m.states[q]? = some s → M.states[d + q]? = some (movS d s)
def hopL (m : MachL) (d : Nat) : List ArcL := if 0 ≤ m.start then [⟨0, 0, 0, m.start + d⟩] else []
theorem unionStep_get (ss : List StateL) (m : MachL) (h : 0 < ss.length) (i : Nat) : (unionStep ss m)[i]? = if i = 0 then (ss[0]?).map (fun s => ⟨s.final, s.arcs ++ hopL m ss.length⟩) else if i < ss.length then ss[i]? else (m.states[i - ss.length]?).map (movS ss.length) := by
  have base : ∀ i, (ss ++ m.states.map (movS ss.length))[i]? = if i < ss.length then ss[i]? else (m.states[i - ss.length]?).map (movS ss.length) := by
    intro i
    rw [List.getElem?_append]
    split <;> simp
  unfold unionStep hopL
  by_cases hs : 0 ≤ m.start
  · rw [if_pos hs, if_pos hs, addS_eq _ _ (by simp; omega)]
    by_cases hi : i = 0
    · subst hi
      rw [if_pos rfl, List.getElem?_set_self (by simp; omega)]
      rw [List.getElem?_eq_getElem h]
      simp [h]
    · rw [if_neg hi, List.getElem?_set_ne (fun e => hi e.symm), base]
  · rw [if_neg hs, if_neg hs, base]
    by_cases hi : i = 0
    · subst hi
      rw [if_pos h, if_pos rfl, List.getElem?_eq_getElem h]; simp
    · rw [if_neg hi]

section
variable {a b : MachL}
theorem union_len (a b : MachL) : (unionM a b).states.length = 1 + a.states.length + b.states.length := by simp [unionM, unionS, unionStep_len]
theorem union_get0 (a b : MachL) : (unionM a b).states[0]? = some ⟨1000000001, hopL a 1 ++ hopL b (1 + a.states.length)⟩ := by
  show (unionStep (unionStep [⟨1000000001, []⟩] a) b)[0]? = _
  rw [unionStep_get _ _ (by simp [unionStep_len]; omega), if_pos rfl, unionStep_get _ _ (by simp), if_pos rfl, unionStep_len]
  simp
theorem union_get1 (a b : MachL) (q : Nat) (hq : q < a.states.length) : (unionM a b).states[1 + q]? = (a.states[q]?).map (movS 1) := by
  show (unionStep (unionStep [⟨1000000001, []⟩] a) b)[1 + q]? = _
  rw [unionStep_get _ _ (by simp [unionStep_len]; omega), if_neg (by omega), if_pos (by simp [unionStep_len]; omega), unionStep_get _ _ (by simp), if_neg (by omega), if_neg (by simp)]
  simp
theorem union_get2 (a b : MachL) (q : Nat) : (unionM a b).states[1 + a.states.length + q]? = (b.states[q]?).map (movS ((1 + a.states.length : Nat) : Int)) := by
  show (unionStep (unionStep [⟨1000000001, []⟩] a) b)[1 + a.states.length + q]? = _
  rw [unionStep_get _ _ (by simp [unionStep_len]; omega), if_neg (by omega), if_neg (by simp [unionStep_len])]
  rw [unionStep_len]
  simp
theorem union_emb1 (a b : MachL) : Emb a (unionM a b) 1 := fun q s hs => by
  rw [union_get1 a b q (List.getElem?_eq_some_iff.1 hs).1, hs]; rfl
theorem union_emb2 (a b : MachL) : Emb b (unionM a b) (1 + a.states.length) := fun q s hs => by
  rw [union_get2 a b q, hs]; rfl
theorem hop_mem {m : MachL} {d : Nat} {e : ArcL} (h : e ∈ hopL m d) : 0 ≤ m.start ∧ e = ⟨0, 0, 0, m.start + d⟩ := by
  unfold hopL at h
  split at h
  · rename_i h0; simp at h; exact ⟨h0, h⟩
  · cases h
theorem union_mem (a b : MachL) {s : StateL} (h : s ∈ (unionM a b).states) : s = ⟨1000000001, hopL a 1 ++ hopL b (1 + a.states.length)⟩ ∨ (∃ s0 ∈ a.states, s = movS 1 s0) ∨ ∃ s0 ∈ b.states, s = movS ((1 + a.states.length : Nat) : Int) s0 := by
  obtain ⟨i, hi, rfl⟩ := List.getElem_of_mem h
  have hg := List.getElem?_eq_getElem hi
  rw [union_len] at hi
  by_cases h0 : i = 0
  · subst h0
    rw [union_get0] at hg
    exact .inl (Option.some.inj hg).symm
  · by_cases h1 : i < 1 + a.states.length
    · obtain ⟨q, rfl⟩ : ∃ q, i = 1 + q := ⟨i - 1, by omega⟩
      have hq : q < a.states.length := by omega
      rw [union_get1 a b q hq, List.getElem?_eq_getElem hq] at hg
      exact .inr (.inl ⟨_, List.getElem_mem hq, (Option.some.inj hg).symm⟩)
    · obtain ⟨q, rfl⟩ : ∃ q, i = 1 + a.states.length + q := ⟨i - (1 + a.states.length), by omega⟩
      have hq : q < b.states.length := by omega
      rw [union_get2 a b q, List.getElem?_eq_getElem hq] at hg
      exact .inr (.inr ⟨_, List.getElem_mem hq, (Option.some.inj hg).symm⟩)
theorem mov_valid {d n k : Nat} {s : StateL} (hn : d + n ≤ k) (h : ValidFinal s.final ∧ ∀ a ∈ s.arcs, ValidArc n a) : ValidFinal (movS d s).final ∧ ∀ a ∈ (movS d s).arcs, ValidArc k a := by
  refine ⟨h.1, fun a ha => ?_⟩
  obtain ⟨a0, h0, rfl⟩ := List.mem_map.1 ha
  have v := h.2 a0 h0
  exact ⟨v.i0, v.i1, v.o0, v.o1, v.w0, v.w1, by have := v.t0; simp only [movA]; omega, by have := v.t1; simp only [movA]; omega⟩
theorem arcsOf_append (l l' : List StateL) : arcsOf (l ++ l') = arcsOf l + arcsOf l' := by simp [arcsOf]
theorem arcsOf_mov (l : List StateL) (d : Int) : arcsOf (l.map (movS d)) = arcsOf l := by
  unfold arcsOf
  rw [List.map_map]
  congr 1
  apply List.map_congr_left
  intro s _
  simp [movS]
theorem arcsOf_addS (ss : List StateL) (x : Nat × ArcL) (h : x.1 < ss.length) : arcsOf (addS ss x) = arcsOf ss + 1 := by
  have := addSs_arcs [x] ss (by simpa using h)
  simpa [addSs] using this
theorem unionStep_arcs (ss : List StateL) (m : MachL) (h : 0 < ss.length) : arcsOf (unionStep ss m) ≤ arcsOf ss + arcsOf m.states + 1 := by
  unfold unionStep
  split
  · rw [arcsOf_addS _ _ (by simp; omega), arcsOf_append, arcsOf_mov]; omega
  · rw [arcsOf_append, arcsOf_mov]; omega
theorem union_valid (ha : Valid a) (hb : Valid b) (hn : 1 + a.states.length + b.states.length ≤ 60) (hc : arcsOf a.states + arcsOf b.states + 2 ≤ 400) : Valid (unionM a b) := by
  refine ⟨by rw [union_len]; exact hn, ?_, by simp [unionM], by rw [union_len]; simp [unionM]; omega, fun s hs => ?_⟩
  · show arcsOf (unionStep (unionStep [⟨1000000001, []⟩] a) b) ≤ 400
    have h1 := unionStep_arcs (unionStep [⟨1000000001, []⟩] a) b (by simp [unionStep_len]; omega)
    have h2 := unionStep_arcs [⟨1000000001, []⟩] a (by simp)
    have h3 : arcsOf [(⟨1000000001, []⟩ : StateL)] = 0 := rfl
    omega
  · rw [union_len]
    rcases union_mem a b hs with rfl | ⟨s0, h0, rfl⟩ | ⟨s0, h0, rfl⟩
    · refine ⟨.inr rfl, fun e he => ?_⟩
      have s1 := ha.s1; have s2 := hb.s1
      rcases List.mem_append.1 he with he | he
      · obtain ⟨h0, rfl⟩ := hop_mem he
        exact ⟨by simp, by simp, by simp, by simp, by simp, by simp, by simp only; omega, by simp only; omega⟩
      · obtain ⟨h0, rfl⟩ := hop_mem he
        exact ⟨by simp, by simp, by simp, by simp, by simp, by simp, by simp only; omega, by simp only; omega⟩
    · exact mov_valid (d := 1) (by omega) (ha.st s0 h0)
    · exact mov_valid (by omega) (hb.st s0 h0)
end
end Go.Proofs.Ytfikkpgigicepaa
