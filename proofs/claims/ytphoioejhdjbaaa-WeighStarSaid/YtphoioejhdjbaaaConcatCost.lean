/- Concat's costs (plain). -/
import Derived.Test.YtphoioejhdjbaaaEmb
import Derived.Test.YtphoioejhdjbaaaConcat
import Derived.Test.YtphoioejhdjbaaaSplits
namespace Go.Proofs.Ytphoioejhdjbaaa

/-- M holds m's states from d on, their ends led on to T -/
def LEmb (m M : MachL) (d : Nat) (T : Int) : Prop := ∀ q s, m.states[q]? = some s → M.states[d + q]? = some (looseS T (movS d s))
theorem lemb_to {m M : MachL} {d : Nat} {T : Int} (h : LEmb m M d T) (hv : Valid m) {k : Nat} {x y : List Int} {c : Int} (ha : AccW M k x y c) : ∀ q, k = d + q → q < m.states.length →
    ∃ x1 x2 y1 y2 c1 c2, x = x1 ++ x2 ∧ y = y1 ++ y2 ∧ AccW m q x1 y1 c1 ∧ 0 ≤ T ∧ AccW M T.toNat x2 y2 c2 ∧ c = c1 + c2 := by
  induction ha with
  | @fin k s hs hf =>
    intro q hk hq
    subst hk
    have := h q _ (List.getElem?_eq_getElem hq)
    rw [hs] at this
    injection this with this
    subst this
    exact absurd rfl hf
  | @arc k s a x y c hs ha hacc ih =>
    intro q hk hq
    subst hk
    have := h q _ (List.getElem?_eq_getElem hq)
    rw [hs] at this
    injection this with this
    subst this
    simp only [looseS] at ha
    rcases List.mem_append.1 ha with ha | ha
    · obtain ⟨a0, ha0, rfl⟩ := List.mem_map.1 ha
      have hva := (hv.st _ (List.getElem_mem hq)).2 a0 ha0
      have t0 := hva.t0; have t1 := hva.t1
      obtain ⟨x1, x2, y1, y2, c1, c2, rfl, rfl, h3, h4, h5, rfl⟩ := ih a0.to.toNat (by simp only [movA]; omega) (by omega)
      exact ⟨pre a0.inn ++ x1, x2, pre a0.out ++ y1, y2, a0.wt + c1, c2, (List.append_assoc _ _ _).symm, (List.append_assoc _ _ _).symm, AccW.arc (List.getElem?_eq_getElem hq) ha0 h3, h4, h5, by simp only [movA]; omega⟩
    · split at ha
      · cases ha
      · rename_i hn
        simp at ha
        subst ha
        exact ⟨[], x, [], y, m.states[q].final, c, by simp [pre], by simp [pre], AccW.fin (List.getElem?_eq_getElem hq) (fun e => hn (.inl (by simpa [movS] using e))), by omega, hacc, by simp [movS]⟩
theorem lemb_of {m M : MachL} {d : Nat} {T : Int} (h : LEmb m M d T) (hv : Valid m) (hT : 0 ≤ T) {x2 y2 : List Int} {c2 : Int} (h2 : AccW M T.toNat x2 y2 c2) {q : Nat} {x y : List Int} {c : Int} (ha : AccW m q x y c) : AccW M (d + q) (x ++ x2) (y ++ y2) (c + c2) := by
  induction ha with
  | @fin q s hs hf =>
    have := AccW.arc (a := ⟨0, 0, s.final, T⟩) (h q s hs) (by
      simp only [looseS]
      refine List.mem_append_right _ ?_
      rw [if_neg (by have : ¬ (movS (d : Int) s).final = 1000000001 := hf; omega)]
      simp [movS]) h2
    simpa [pre] using this
  | @arc q s a x y c hs ha _ ih =>
    have hva := (hv.st _ (List.mem_of_getElem? hs)).2 a ha
    have t0 := hva.t0
    have e : (movA d a).to.toNat = d + a.to.toNat := by simp only [movA]; omega
    have := AccW.arc (a := movA d a) (h q s hs) (by simp only [looseS]; exact List.mem_append_left _ (List.mem_map_of_mem ha)) (by rw [e]; exact ih)
    simp only [movA] at this
    rw [List.append_assoc, List.append_assoc, Int.add_assoc]
    exact this

section
variable {a b : MachL}
theorem concat_len (a b : MachL) : (concatM a b).states.length = a.states.length + b.states.length := by simp [concatM, looseN_len, concat2, concat1_len]
theorem concat_get1 (a b : MachL) (q : Nat) (hq : q < a.states.length) : (concatM a b).states[q]? = (a.states[q]?).map (fun s => looseS (concatT a b) (movS 0 s)) := by
  have h1 := concat1_len a
  show (looseN (concat2 a b) 0 (concat1 a).length (concatT a b))[q]? = _
  unfold looseN
  rw [List.getElem?_mapIdx]
  have e : (concat2 a b)[q]? = (a.states[q]?).map (movS 0) := by
    unfold concat2
    rw [List.getElem?_append_left (by omega)]
    simp [concat1]
  rw [e, List.getElem?_eq_getElem hq]
  simp only [Option.map_some]
  rw [if_pos (by omega)]
theorem concat_get2 (a b : MachL) (q : Nat) : (concatM a b).states[a.states.length + q]? = (b.states[q]?).map (movS a.states.length) := by
  have h1 := concat1_len a
  show (looseN (concat2 a b) 0 (concat1 a).length (concatT a b))[a.states.length + q]? = _
  unfold looseN
  rw [List.getElem?_mapIdx]
  have e : (concat2 a b)[a.states.length + q]? = (b.states[q]?).map (movS a.states.length) := by
    unfold concat2
    rw [List.getElem?_append_right (by omega), h1]
    simp
  rw [e]
  cases b.states[q]? with
  | none => rfl
  | some s =>
    simp only [Option.map_some]
    rw [if_neg (by omega)]
theorem concat_lemb (a b : MachL) : LEmb a (concatM a b) 0 (concatT a b) := fun q s hs => by
  rw [Nat.zero_add, concat_get1 a b q (List.getElem?_eq_some_iff.1 hs).1, hs]; rfl
theorem concat_emb (a b : MachL) : Emb b (concatM a b) a.states.length := fun q s hs => by
  rw [concat_get2, hs]; rfl
theorem concat_mem (a b : MachL) {s : StateL} (h : s ∈ (concatM a b).states) : (∃ s0 ∈ a.states, s = looseS (concatT a b) (movS 0 s0)) ∨ ∃ s0 ∈ b.states, s = movS a.states.length s0 := by
  obtain ⟨i, hi, rfl⟩ := List.getElem_of_mem h
  have hg := List.getElem?_eq_getElem hi
  rw [concat_len] at hi
  by_cases h1 : i < a.states.length
  · rw [concat_get1 a b i h1, List.getElem?_eq_getElem h1] at hg
    exact .inl ⟨_, List.getElem_mem h1, (Option.some.inj hg).symm⟩
  · obtain ⟨q, rfl⟩ : ∃ q, i = a.states.length + q := ⟨i - a.states.length, by omega⟩
    have hq : q < b.states.length := by omega
    rw [concat_get2 a b q, List.getElem?_eq_getElem hq] at hg
    exact .inr ⟨_, List.getElem_mem hq, (Option.some.inj hg).symm⟩
theorem concatT_b (hb : Valid b) : -1 ≤ concatT a b ∧ concatT a b < a.states.length + b.states.length := by
  unfold concatT
  rw [concat1_len]
  have := hb.s1
  split <;> omega
theorem loose_valid {k : Nat} {T : Int} {s : StateL} (hT : T < k) (h : ValidFinal s.final ∧ ∀ a ∈ s.arcs, ValidArc k a) : ValidFinal (looseS T s).final ∧ ∀ a ∈ (looseS T s).arcs, ValidArc k a := by
  refine ⟨.inr rfl, fun a ha => ?_⟩
  simp only [looseS] at ha
  rcases List.mem_append.1 ha with ha | ha
  · exact h.2 a ha
  · split at ha
    · cases ha
    · rename_i hn
      simp at ha
      subst ha
      have hf := h.1
      unfold ValidFinal at hf
      exact ⟨by simp, by simp, by simp, by simp, by simp only; omega, by simp only; omega, by simp only; omega, by simp only; omega⟩
theorem arcsOf_loose (T : Int) (l : List StateL) : arcsOf (l.map (looseS T)) ≤ arcsOf l + l.length := by
  induction l with
  | nil => simp [arcsOf]
  | cons s l ih =>
    unfold arcsOf at *
    simp only [List.map_cons, List.sum_cons, List.length_cons]
    have : (looseS T s).arcs.length ≤ s.arcs.length + 1 := by
      simp only [looseS, List.length_append]
      split <;> simp
    omega
theorem arcsOf_looseN (ss : List StateL) (f k : Nat) (T : Int) : arcsOf (looseN ss f k T) ≤ arcsOf ss + ss.length := by
  have key : ∀ (l : List StateL) (g : Nat → StateL → StateL), (∀ i s, (g i s).arcs.length ≤ s.arcs.length + 1) → arcsOf (l.mapIdx g) ≤ arcsOf l + l.length := by
    intro l
    induction l with
    | nil => intro g _; simp [arcsOf]
    | cons s l ih =>
      intro g hg
      have h1 := ih (fun i => g (i + 1)) (fun i s => hg (i + 1) s)
      have h2 := hg 0 s
      unfold arcsOf at *
      simp only [List.mapIdx_cons, List.map_cons, List.sum_cons, List.length_cons]
      omega
  refine key ss _ (fun i s => ?_)
  split
  · simp only [looseS, List.length_append]
    split <;> simp
  · omega
theorem concat_valid (ha : Valid a) (hb : Valid b) (hn : a.states.length + b.states.length ≤ 60) (hc : arcsOf a.states + arcsOf b.states + a.states.length + b.states.length ≤ 400) : Valid (concatM a b) := by
  have hT := concatT_b (a := a) hb
  refine ⟨by rw [concat_len]; exact hn, ?_, ha.s0, by rw [concat_len]; have := ha.s1; simp only [concatM]; omega, fun s hs => ?_⟩
  · have h1 := arcsOf_looseN (concat2 a b) 0 (concat1 a).length (concatT a b)
    have h2 : arcsOf (concat2 a b) = arcsOf a.states + arcsOf b.states := by unfold concat2 concat1; rw [arcsOf_append, arcsOf_mov, arcsOf_mov]
    have h3 : (concat2 a b).length = a.states.length + b.states.length := by simp [concat2, concat1_len]
    show arcsOf (looseN (concat2 a b) 0 (concat1 a).length (concatT a b)) ≤ 400
    omega
  · rw [concat_len]
    rcases concat_mem a b hs with ⟨s0, h0, rfl⟩ | ⟨s0, h0, rfl⟩
    · exact loose_valid (by have := hT.2; omega) (mov_valid (d := 0) (by omega) (ha.st s0 h0))
    · exact mov_valid (by omega) (hb.st s0 h0)
theorem loose_little {s : StateL} {T : Int} {AA : Nat} (h1 : ∀ a ∈ s.arcs, a.wt ≤ 9) (h2 : s.final ≠ INF → s.final ≤ 9) (h3 : s.arcs.length ≤ AA) : (∀ a ∈ (looseS T s).arcs, a.wt ≤ 9) ∧ (looseS T s).arcs.length ≤ AA + 1 := by
  refine ⟨fun a ha => ?_, ?_⟩
  · simp only [looseS] at ha
    rcases List.mem_append.1 ha with ha | ha
    · exact h1 a ha
    · split at ha
      · cases ha
      · rename_i hn
        simp at ha; subst ha
        exact h2 (fun e => hn (.inl e))
  · simp only [looseS, List.length_append]
    split <;> simp <;> omega
theorem concat_little {n k AA : Nat} (ha : Little a n AA) (hb : Little b k AA) : Little (concatM a b) (n + k) (AA + 1) := by
  have hl : ∀ s0 ∈ a.states, (∀ e ∈ (looseS (concatT a b) (movS 0 s0)).arcs, e.wt ≤ 9) ∧ (looseS (concatT a b) (movS 0 s0)).arcs.length ≤ AA + 1 := fun s0 h0 =>
    loose_little (fun e he => by obtain ⟨a0, h1, rfl⟩ := List.mem_map.1 he; exact ha.wt s0 h0 a0 h1) (ha.fin s0 h0) (by simpa [movS] using ha.arcs s0 h0)
  refine ⟨by rw [concat_len]; have := ha.len; have := hb.len; omega, fun s hs e he => ?_, fun s hs hne => ?_, fun s hs => ?_⟩ <;> rcases concat_mem a b hs with ⟨s0, h0, rfl⟩ | ⟨s0, h0, rfl⟩
  · exact (hl s0 h0).1 e he
  · obtain ⟨a0, h1, rfl⟩ := List.mem_map.1 he; exact hb.wt s0 h0 a0 h1
  · exact absurd rfl hne
  · exact hb.fin s0 h0 hne
  · exact (hl s0 h0).2
  · have := hb.arcs s0 h0; simp only [movS, List.length_map]; omega
theorem concat_tot (ha : Valid a) (hb : Valid b) (x y : List Int) (c : Int) : TP a b x y (x.length + 1) 0 c ↔ Tot (concatM a b) x y false c := by
  have s1 := ha.s1; have s2 := hb.s1
  have hT : (0 ≤ concatT a b ↔ 0 ≤ b.start) ∧ (0 ≤ b.start → (concatT a b).toNat = a.states.length + b.start.toNat) := by
    unfold concatT; rw [concat1_len]
    constructor
    · split <;> omega
    · intro h; rw [if_pos h]; omega
  rw [tot_accW]
  constructor
  · rintro ⟨i, j, hi, hj, _, c1, c2, h1, h2, rfl⟩
    rw [tot_accW] at h1 h2
    refine ⟨h1.1, ?_⟩
    have h3 := emb_of (concat_emb a b) hb h2.2
    rw [← hT.2 h2.1] at h3
    have h4 := lemb_of (concat_lemb a b) ha (hT.1.2 h2.1) h3 h1.2
    rw [List.take_append_drop, List.take_append_drop, Nat.zero_add] at h4
    exact h4
  · rintro ⟨h0, h⟩
    have h0' : 0 ≤ a.start := h0
    obtain ⟨x1, x2, y1, y2, c1, c2, rfl, rfl, h3, h4, h5, rfl⟩ := lemb_to (concat_lemb a b) ha h a.start.toNat (by simp [concatM]) (by omega)
    have hb0 := hT.1.1 h4
    rw [hT.2 hb0] at h5
    have h6 := emb_to (concat_emb a b) hb h5 b.start.toNat rfl (by omega)
    refine ⟨x1.length, y1.length, by simp, by simp, by simp; omega, c1, c2, ?_, ?_, rfl⟩
    · rw [tot_accW]
      simp only [List.take_left]
      exact ⟨h0', h3⟩
    · rw [tot_accW]
      simp only [List.drop_left]
      exact ⟨hb0, h6⟩
end
theorem Best.eqB {T : Int → Prop} {r r' : Int} (h : Best T r) (h' : BestB T r') : r = r' := h.toB.eq h'
end Go.Proofs.Ytphoioejhdjbaaa
