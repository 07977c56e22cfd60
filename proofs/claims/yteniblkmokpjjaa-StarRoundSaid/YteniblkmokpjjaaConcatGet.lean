/- Concat's states (plain). -/
import Derived.Test.YteniblkmokpjjaaEmbGet
import Derived.Test.YteniblkmokpjjaaConcat
namespace Go.Proofs.Yteniblkmokpjjaa

/-- M holds m's states from d on, their ends led on to T -/
def LEmb (m M : MachL) (d : Nat) (T : Int) : Prop := ∀ q s, m.states[q]? = some s → M.states[d + q]? = some (looseS T (movS d s))
section
variable {a b : MachL}
theorem concat_len (a b : MachL) : (concatM a b).states.length = a.states.length + b.states.length := by simp [concatM, looseN_len, concat2, concat1_len]
theorem concat_get1 (a b : MachL) (q : Nat) (hq : q < a.states.length) : (concatM a b).states[q]? = (a.states[q]?).map (fun s => looseS (concatT a b) (movS 0 s)) := by
  have h1 := concat1_len a
  show (looseN (concat2 a b) 0 (concat1 a).length (concatT a b))[q]? = _
  unfold looseN
  rw [List.getElem?_mapIdx]
  have e : (concat2 a b)[q]? = (a.states[q]?).map (movS 0) := by
    unfold concat2
    rw [List.getElem?_append_left (by omega)]
    simp [concat1]
  rw [e, List.getElem?_eq_getElem hq]
  simp only [Option.map_some]
  rw [if_pos (by omega)]
theorem concat_get2 (a b : MachL) (q : Nat) : (concatM a b).states[a.states.length + q]? = (b.states[q]?).map (movS a.states.length) := by
  have h1 := concat1_len a
  show (looseN (concat2 a b) 0 (concat1 a).length (concatT a b))[a.states.length + q]? = _
  unfold looseN
  rw [List.getElem?_mapIdx]
  have e : (concat2 a b)[a.states.length + q]? = (b.states[q]?).map (movS a.states.length) := by
    unfold concat2
    rw [List.getElem?_append_right (by omega), h1]
    simp
  rw [e]
  cases b.states[q]? with
  | none => rfl
  | some s =>
    simp only [Option.map_some]
    rw [if_neg (by omega)]
theorem concat_lemb (a b : MachL) : LEmb a (concatM a b) 0 (concatT a b) := fun q s hs => by
  rw [Nat.zero_add, concat_get1 a b q (List.getElem?_eq_some_iff.1 hs).1, hs]; rfl
theorem concat_emb (a b : MachL) : Emb b (concatM a b) a.states.length := fun q s hs => by
  rw [concat_get2, hs]; rfl
theorem concat_mem (a b : MachL) {s : StateL} (h : s ∈ (concatM a b).states) : (∃ s0 ∈ a.states, s = looseS (concatT a b) (movS 0 s0)) ∨ ∃ s0 ∈ b.states, s = movS a.states.length s0 := by
  obtain ⟨i, hi, rfl⟩ := List.getElem_of_mem h
  have hg := List.getElem?_eq_getElem hi
  rw [concat_len] at hi
  by_cases h1 : i < a.states.length
  · rw [concat_get1 a b i h1, List.getElem?_eq_getElem h1] at hg
    exact .inl ⟨_, List.getElem_mem h1, (Option.some.inj hg).symm⟩
  · obtain ⟨q, rfl⟩ : ∃ q, i = a.states.length + q := ⟨i - a.states.length, by omega⟩
    have hq : q < b.states.length := by omega
    rw [concat_get2 a b q, List.getElem?_eq_getElem hq] at hg
    exact .inr ⟨_, List.getElem_mem hq, (Option.some.inj hg).symm⟩
theorem concatT_b (hb : Valid b) : -1 ≤ concatT a b ∧ concatT a b < a.states.length + b.states.length := by
  unfold concatT
  rw [concat1_len]
  have := hb.s1
  split <;> omega
theorem loose_valid {k : Nat} {T : Int} {s : StateL} (hT : T < k) (h : ValidFinal s.final ∧ ∀ a ∈ s.arcs, ValidArc k a) : ValidFinal (looseS T s).final ∧ ∀ a ∈ (looseS T s).arcs, ValidArc k a := by
  refine ⟨.inr rfl, fun a ha => ?_⟩
  simp only [looseS] at ha
  rcases List.mem_append.1 ha with ha | ha
  · exact h.2 a ha
  · split at ha
    · cases ha
    · rename_i hn
      simp at ha
      subst ha
      have hf := h.1
      unfold ValidFinal at hf
      exact ⟨by simp, by simp, by simp, by simp, by simp only; omega, by simp only; omega, by simp only; omega, by simp only; omega⟩
theorem arcsOf_loose (T : Int) (l : List StateL) : arcsOf (l.map (looseS T)) ≤ arcsOf l + l.length := by
  induction l with
  | nil => simp [arcsOf]
  | cons s l ih =>
    unfold arcsOf at *
    simp only [List.map_cons, List.sum_cons, List.length_cons]
    have : (looseS T s).arcs.length ≤ s.arcs.length + 1 := by
      simp only [looseS, List.length_append]
      split <;> simp
    omega
theorem arcsOf_looseN (ss : List StateL) (f k : Nat) (T : Int) : arcsOf (looseN ss f k T) ≤ arcsOf ss + ss.length := by
  have key : ∀ (l : List StateL) (g : Nat → StateL → StateL), (∀ i s, (g i s).arcs.length ≤ s.arcs.length + 1) → arcsOf (l.mapIdx g) ≤ arcsOf l + l.length := by
    intro l
    induction l with
    | nil => intro g _; simp [arcsOf]
    | cons s l ih =>
      intro g hg
      have h1 := ih (fun i => g (i + 1)) (fun i s => hg (i + 1) s)
      have h2 := hg 0 s
      unfold arcsOf at *
      simp only [List.mapIdx_cons, List.map_cons, List.sum_cons, List.length_cons]
      omega
  refine key ss _ (fun i s => ?_)
  split
  · simp only [looseS, List.length_append]
    split <;> simp
  · omega
theorem concat_valid (ha : Valid a) (hb : Valid b) (hn : a.states.length + b.states.length ≤ 60) (hc : arcsOf a.states + arcsOf b.states + a.states.length + b.states.length ≤ 400) : Valid (concatM a b) := by
  have hT := concatT_b (a := a) hb
  refine ⟨by rw [concat_len]; exact hn, ?_, ha.s0, by rw [concat_len]; have := ha.s1; simp only [concatM]; omega, fun s hs => ?_⟩
  · have h1 := arcsOf_looseN (concat2 a b) 0 (concat1 a).length (concatT a b)
    have h2 : arcsOf (concat2 a b) = arcsOf a.states + arcsOf b.states := by unfold concat2 concat1; rw [arcsOf_append, arcsOf_mov, arcsOf_mov]
    have h3 : (concat2 a b).length = a.states.length + b.states.length := by simp [concat2, concat1_len]
    show arcsOf (looseN (concat2 a b) 0 (concat1 a).length (concatT a b)) ≤ 400
    omega
  · rw [concat_len]
    rcases concat_mem a b hs with ⟨s0, h0, rfl⟩ | ⟨s0, h0, rfl⟩
    · exact loose_valid (by have := hT.2; omega) (mov_valid (d := 0) (by omega) (ha.st s0 h0))
    · exact mov_valid (by omega) (hb.st s0 h0)
end
end Go.Proofs.Yteniblkmokpjjaa
