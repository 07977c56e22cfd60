/- Distances (plain): what a queue of waiting states computes is the least cost of a way. -/
import Derived.ProofKit
import Derived.Test.YtikkmoleneioeaaRows
namespace Go.Proofs.Ytikkmoleneioeaa

abbrev Edges := List (List (Nat × Int))

/-- a way to a state, and what it costs -/
inductive Way (first : List Int) (E : Edges) : Nat → Int → Prop where
  | start {q : Nat} (h : q < first.length) (hw : first[q] ≠ 1000000001) : Way first E q first[q]
  | step {q p : Nat} {c w : Int} (h : Way first E q c) (he : (p, w) ∈ E.getD q []) : Way first E p (c + w)

/-- what is asked of the numbers -/
structure FarOk (n : Nat) (first : List Int) (E : Edges) : Prop where
  fl : first.length = n
  el : E.length = n
  fb : ∀ x ∈ first, 0 ≤ x ∧ x ≤ 1000000001
  eb : ∀ l ∈ E, ∀ e ∈ l, e.1 < n ∧ 0 ≤ e.2 ∧ e.2 ≤ 1000000000

section
variable {n : Nat} {first : List Int} {E : Edges}
theorem FarOk.edge (h : FarOk n first E) {q p : Nat} {w : Int} (he : (p, w) ∈ E.getD q []) : q < n ∧ p < n ∧ 0 ≤ w ∧ w ≤ 1000000000 := by
  rcases Nat.lt_or_ge q E.length with hq | hq
  · have hg : E.getD q [] = E[q] := by simp [List.getD_eq_getElem?_getD, hq]
    rw [hg] at he
    have := h.eb _ (List.getElem_mem hq) _ he
    exact ⟨by have := h.el; omega, this⟩
  · simp [List.getD_eq_getElem?_getD, List.getElem?_eq_none hq] at he
theorem Way.lt (h : FarOk n first E) {q : Nat} {c : Int} (hw : Way first E q c) : q < n := by
  induction hw with
  | start hq _ => have := h.fl; omega
  | step _ he _ => exact (h.edge he).2.1
theorem Way.nn (h : FarOk n first E) {q : Nat} {c : Int} (hw : Way first E q c) : 0 ≤ c := by
  induction hw with
  | start hq _ => exact (h.fb _ (List.getElem_mem hq)).1
  | step _ he ih => have := (h.edge he).2.2.1; omega

/-- a way that meets no state twice -/
inductive Simple (first : List Int) (E : Edges) : Nat → List Nat → Prop where
  | start {q : Nat} (h : q < first.length) (hw : first[q] ≠ 1000000001) : Simple first E q [q]
  | step {q p : Nat} {w : Int} {vs : List Nat} (h : Simple first E q vs) (hp : p ∉ vs) (he : (p, w) ∈ E.getD q []) : Simple first E p (p :: vs)

theorem Simple.cut {q : Nat} {vs : List Nat} (h : Simple first E q vs) : ∀ p ∈ vs, ∃ us, Simple first E p us := by
  induction h with
  | start hq hw => intro p hp; simp at hp; subst hp; exact ⟨_, .start hq hw⟩
  | step h hp he ih =>
    intro r hr
    rcases List.mem_cons.1 hr with rfl | hr
    · exact ⟨_, .step h hp he⟩
    · exact ih r hr
theorem Way.simple {q : Nat} {c : Int} (h : Way first E q c) : ∃ vs, Simple first E q vs := by
  induction h with
  | start hq hw => exact ⟨_, .start hq hw⟩
  | @step q p c w h he ih =>
    obtain ⟨vs, hs⟩ := ih
    by_cases hp : p ∈ vs
    · exact hs.cut p hp
    · exact ⟨_, .step hs hp he⟩
theorem Simple.nodup {q : Nat} {vs : List Nat} (h : Simple first E q vs) : vs.Nodup := by
  induction h with
  | start => simp
  | step _ hp _ ih => exact List.nodup_cons.2 ⟨hp, ih⟩
theorem Simple.lt (ho : FarOk n first E) {q : Nat} {vs : List Nat} (h : Simple first E q vs) : ∀ p ∈ vs, p < n := by
  induction h with
  | start hq _ => intro p hp; simp at hp; subst hp; have := ho.fl; omega
  | step _ _ he ih =>
    intro r hr
    rcases List.mem_cons.1 hr with rfl | hr
    · exact (ho.edge he).2.1
    · exact ih r hr
theorem nodup_lt_len : ∀ (n : Nat) (l : List Nat), l.Nodup → (∀ x ∈ l, x < n) → l.length ≤ n := by
  intro n
  induction n with
  | zero =>
    intro l _ h
    cases l with
    | nil => simp
    | cons a l => exact absurd (h a (by simp)) (by omega)
  | succ n ih =>
    intro l hd h
    by_cases hn : n ∈ l
    · have h1 := List.length_erase_of_mem hn
      have h2 := ih (l.erase n) (hd.erase n) (fun x hx => by
        have h3 := (hd.mem_erase_iff).1 hx
        have := h x h3.2
        have := h3.1
        omega)
      have := List.length_pos_of_mem hn
      omega
    · have := ih l hd (fun x hx => by
        have := h x hx
        have : x ≠ n := fun e => hn (e ▸ hx)
        omega)
      omega
theorem Simple.way (ho : FarOk n first E) {F W : Int} (hF : ∀ x ∈ first, x = 1000000001 ∨ x ≤ F) (hW : ∀ l ∈ E, ∀ e ∈ l, e.2 ≤ W) {q : Nat} {vs : List Nat} (h : Simple first E q vs) :
    ∃ c, Way first E q c ∧ c + W ≤ F + W * vs.length := by
  induction h with
  | @start q hq hw =>
    refine ⟨_, .start hq hw, ?_⟩
    rcases hF _ (List.getElem_mem hq) with h | h
    · exact absurd h hw
    · simp; exact h
  | @step q p w vs h hp he ih =>
    obtain ⟨c, hc, hb⟩ := ih
    refine ⟨_, .step hc he, ?_⟩
    have hq := (ho.edge he).1
    have hg : E.getD q [] = E[q]'(by have := ho.el; omega) := by simp [List.getD_eq_getElem?_getD, show q < E.length by have := ho.el; omega]
    have hw := hW _ (List.getElem_mem (show q < E.length by have := ho.el; omega)) (p, w) (hg ▸ he)
    simp only [List.length_cons]
    push_cast
    rw [Int.mul_add]
    simp only at hw
    omega
/-- a state that can be had can be had for little -/
theorem way_small (ho : FarOk n first E) {F W : Int} (hF : ∀ x ∈ first, x = 1000000001 ∨ x ≤ F) (hW : ∀ l ∈ E, ∀ e ∈ l, e.2 ≤ W) (h0 : 0 ≤ W) {q : Nat} {c : Int} (h : Way first E q c) : ∃ c', Way first E q c' ∧ c' + W ≤ F + W * n := by
  obtain ⟨vs, hs⟩ := h.simple
  obtain ⟨c', hc, hb⟩ := hs.way ho hF hW
  refine ⟨c', hc, Int.le_trans hb ?_⟩
  have h1 := nodup_lt_len n vs hs.nodup (hs.lt ho)
  have := Int.mul_le_mul_of_nonneg_left (show (vs.length : Int) ≤ n by omega) h0
  omega

/-! ### the queue -/
structure FSt where
  cost : List Int
  wait : List Bool
  todo : List Nat

def FSt.put (s : FSt) (q : Nat) : FSt := if s.wait.getD q true = true then s else { s with wait := s.wait.set q true, todo := s.todo ++ [q] }
def FSt.relax (s : FSt) (q : Nat) (e : Nat × Int) : FSt :=
  if s.cost.getD q 0 + e.2 < s.cost.getD e.1 0 then FSt.put { s with cost := s.cost.set e.1 (s.cost.getD q 0 + e.2) } e.1 else s
def FSt.relaxes (s : FSt) (q : Nat) (l : List (Nat × Int)) : FSt := l.foldl (fun s e => s.relax q e) s

/-- 2^60 -/
def NONE : Int := 1152921504606846976
theorem NONE_eq : NONE = 1152921504606846976 := rfl
theorem none_gt : (2000000001 : Int) < NONE := by unfold NONE; omega
theorem none_lt : NONE < (9000000000000000000 : Int) := by unfold NONE; omega

/-- what holds while edges 'rest' of q0 are still to be looked at -/
structure FInv (n : Nat) (first : List Int) (E : Edges) (s : FSt) (q0 : Nat) (rest : List (Nat × Int)) : Prop where
  cl : s.cost.length = n
  wl : s.wait.length = n
  way : ∀ q (h : q < s.cost.length), s.cost[q] = NONE ∨ (0 ≤ s.cost[q] ∧ s.cost[q] < NONE ∧ Way first E q s.cost[q])
  fst : ∀ q (h : q < s.cost.length) (h' : q < first.length), first[q] ≠ 1000000001 → s.cost[q] ≤ first[q]
  edge : ∀ q (h : q < s.cost.length), s.cost[q] ≠ NONE → s.wait.getD q false = false → ∀ p w, (p, w) ∈ E.getD q [] → (q = q0 ∧ (p, w) ∈ rest) ∨ s.cost.getD p 0 ≤ s.cost[q] + w
  nd : s.todo.Nodup
  mem : ∀ q, q ∈ s.todo ↔ s.wait.getD q false = true
  had : ∀ q (h : q < s.cost.length), q ∈ s.todo → s.cost[q] ≠ NONE

theorem getD_int {l : List Int} {q : Nat} (h : q < l.length) : l.getD q 0 = l[q] := by simp [List.getD_eq_getElem?_getD, h]
theorem getD_ff {l : List Bool} {q : Nat} (h : q < l.length) (b : Bool) : l.getD q b = l[q] := by simp [List.getD_eq_getElem?_getD, h]
theorem getD_true_lt {l : List Bool} {q : Nat} (h : l.getD q false = true) : q < l.length := by
  rcases Nat.lt_or_ge q l.length with h' | h'
  · exact h'
  · simp [List.getD_eq_getElem?_getD, List.getElem?_eq_none h'] at h

theorem FInv.todo_lt {s : FSt} {q0 : Nat} {rest : List (Nat × Int)} (h : FInv n first E s q0 rest) : ∀ q ∈ s.todo, q < n := fun q hq => by
  have := getD_true_lt ((h.mem q).1 hq); have := h.wl; omega
theorem FInv.todo_len {s : FSt} {q0 : Nat} {rest : List (Nat × Int)} (h : FInv n first E s q0 rest) : s.todo.length ≤ n := nodup_lt_len n _ h.nd h.todo_lt
theorem FInv.cost_b {s : FSt} {q0 : Nat} {rest : List (Nat × Int)} (h : FInv n first E s q0 rest) (q : Nat) (hq : q < n) : 0 ≤ s.cost.getD q 0 ∧ s.cost.getD q 0 ≤ NONE := by
  have hc := h.cl
  rw [getD_int (by omega)]
  rcases h.way q (by omega) with h1 | h1
  · rw [h1]; unfold NONE; omega
  · omega

/-- a state is laid into the queue, whose cost has just been lowered -/
theorem FInv.lower (ho : FarOk n first E) {s : FSt} {q0 : Nat} {rest : List (Nat × Int)} (h : FInv n first E s q0 rest) {p : Nat} (hp : p < n) {c : Int} (hlt : c < s.cost.getD p 0) (hway : Way first E p c) (hq : p = q0 → rest = []) :
    FInv n first E (FSt.put { s with cost := s.cost.set p c } p) q0 rest := by
  have hcl := h.cl; have hwl := h.wl
  have c0 := hway.nn ho
  have hpc := h.cost_b p hp
  have cn : c ≠ NONE := by omega
  have key : ∀ (s' : FSt), s'.cost = s.cost.set p c → s'.wait = s.wait.set p true → s'.todo.Nodup → (∀ q, q ∈ s'.todo ↔ s'.wait.getD q false = true) → FInv n first E s' q0 rest := by
    intro s' e1 e2 hnd hmem
    have hwp : s'.wait.getD p false = true := by rw [e2, getD_ff (by simpa using by omega)]; simp
    refine ⟨by rw [e1]; simpa using hcl, by rw [e2]; simpa using hwl, fun q hq => ?_, fun q hq hq' hf => ?_, fun q hq hn hw a w he => ?_, hnd, hmem, fun q hq hm => ?_⟩
    · simp only [e1] at hq ⊢
      rw [List.length_set] at hq
      by_cases e : p = q
      · subst e; rw [List.getElem_set_self]; exact .inr ⟨c0, by omega, hway⟩
      · rw [List.getElem_set_ne e]; exact h.way q hq
    · simp only [e1] at hq ⊢
      rw [List.length_set] at hq
      by_cases e : p = q
      · subst e; rw [List.getElem_set_self]
        have := h.fst p hq hq' hf
        rw [getD_int hq] at hlt; omega
      · rw [List.getElem_set_ne e]; exact h.fst q hq hq' hf
    · have hne : p ≠ q := fun e => by subst e; rw [hwp] at hw; cases hw
      simp only [e1] at hq hn ⊢
      rw [List.length_set] at hq
      rw [List.getElem_set_ne hne] at hn ⊢
      have hw' : s.wait.getD q false = false := by
        rw [e2] at hw
        rw [getD_ff (by simpa using by omega), List.getElem_set_ne hne] at hw
        rw [getD_ff (by omega)]; exact hw
      rcases h.edge q hq hn hw' a w he with h1 | h1
      · exact .inl h1
      · right
        have ha := (ho.edge he).2.1
        by_cases e : p = a
        · subst e
          rw [getD_int (by simpa using by omega), List.getElem_set_self]
          omega
        · rw [getD_int (by simpa using by omega), List.getElem_set_ne e]
          rw [getD_int (by omega)] at h1
          exact h1
    · have hm' := (hmem q).1 hm
      simp only [e1] at hq ⊢
      rw [List.length_set] at hq
      by_cases e : p = q
      · subst e; rw [List.getElem_set_self]; exact cn
      · rw [List.getElem_set_ne e]
        refine h.had q hq ((h.mem q).2 ?_)
        rw [e2, getD_ff (by simpa using by omega), List.getElem_set_ne e] at hm'
        rw [getD_ff (by omega)]; exact hm'
  unfold FSt.put
  simp only
  split
  · rename_i hw
    rw [getD_ff (by omega)] at hw
    refine key _ rfl ?_ h.nd h.mem
    apply List.ext_getElem
    · simp
    · intro i h1 h2
      by_cases e : p = i
      · subst e; simp [hw]
      · rw [List.getElem_set_ne e]
  · rename_i hw
    rw [getD_ff (by omega)] at hw
    have hw' : s.wait.getD p false = false := by rw [getD_ff (by omega)]; simpa using hw
    have hnot : p ∉ s.todo := fun hm => by rw [(h.mem p).1 hm] at hw'; cases hw'
    refine key _ rfl rfl ?_ ?_
    · exact List.nodup_append.2 ⟨h.nd, by simp, by intro a ha b hb; simp at hb; subst hb; intro e; subst e; exact hnot ha⟩
    · intro q
      rw [List.mem_append, List.mem_singleton]
      simp only
      by_cases e : q = p
      · subst e; rw [getD_ff (by simpa using by omega)]; simp
      · rw [h.mem q]
        simp only [e, or_false]
        rw [List.getD_eq_getElem?_getD, List.getD_eq_getElem?_getD, List.getElem?_set_ne (fun e' => e e'.symm)]

/-- one edge is looked at -/
theorem FInv.relax (ho : FarOk n first E) {s : FSt} {q : Nat} {e : Nat × Int} {rest : List (Nat × Int)} (h : FInv n first E s q (e :: rest)) (hq : q < n) (hn : s.cost.getD q 0 ≠ NONE) (he : e ∈ E.getD q []) :
    FInv n first E (s.relax q e) q rest ∧ (s.relax q e).cost.getD q 0 = s.cost.getD q 0 := by
  obtain ⟨p, w⟩ := e
  have hb := ho.edge he
  have hcl := h.cl
  unfold FSt.relax
  simp only
  split
  · rename_i hlt
    have hne : p ≠ q := by rintro rfl; omega
    have hway : Way first E p (s.cost.getD q 0 + w) := by
      rw [getD_int (by omega)] at hn ⊢
      rcases h.way q (by omega) with h1 | h1
      · exact absurd h1 hn
      · exact .step h1.2.2 he
    have h1 : FInv n first E (FSt.put { s with cost := s.cost.set p (s.cost.getD q 0 + w) } p) q ((p, w) :: rest) := by
      refine FInv.lower ho h hb.2.1 hlt hway (fun e => absurd e hne)
    have hcost : (FSt.put { s with cost := s.cost.set p (s.cost.getD q 0 + w) } p).cost = s.cost.set p (s.cost.getD q 0 + w) := by
      unfold FSt.put; split <;> rfl
    have hcq : (FSt.put { s with cost := s.cost.set p (s.cost.getD q 0 + w) } p).cost.getD q 0 = s.cost.getD q 0 := by
      rw [hcost, List.getD_eq_getElem?_getD, List.getD_eq_getElem?_getD, List.getElem?_set_ne hne]
    have hcp : (FSt.put { s with cost := s.cost.set p (s.cost.getD q 0 + w) } p).cost.getD p 0 = s.cost.getD q 0 + w := by
      rw [hcost, getD_int (by simpa using by omega), List.getElem_set_self]
    refine ⟨⟨h1.cl, h1.wl, h1.way, h1.fst, fun r hr hn2 hw a v hav => ?_, h1.nd, h1.mem, h1.had⟩, hcq⟩
    rcases h1.edge r hr hn2 hw a v hav with ⟨rfl, h2⟩ | h2
    · rcases List.mem_cons.1 h2 with h3 | h3
      · right
        injection h3 with h4 h5
        subst h4; subst h5
        rw [hcp, ← getD_int hr, hcq]
        exact Int.le_refl _
      · exact .inl ⟨rfl, h3⟩
    · exact .inr h2
  · rename_i hge
    refine ⟨⟨h.cl, h.wl, h.way, h.fst, fun r hr hn2 hw a v hav => ?_, h.nd, h.mem, h.had⟩, rfl⟩
    rcases h.edge r hr hn2 hw a v hav with ⟨rfl, h2⟩ | h2
    · rcases List.mem_cons.1 h2 with h3 | h3
      · right
        injection h3 with h4 h5
        subst h4; subst h5
        rw [← getD_int hr]
        omega
      · exact .inl ⟨rfl, h3⟩
    · exact .inr h2

/-- a state leaves the queue -/
def FSt.pop (s : FSt) (q : Nat) (t : List Nat) : FSt := { s with wait := s.wait.set q false, todo := t }
theorem FInv.pop {s : FSt} {q0 q : Nat} {t : List Nat} (h : FInv n first E s q0 []) (ht : s.todo = q :: t) : FInv n first E (s.pop q t) q (E.getD q []) := by
  have hwl := h.wl; have hcl := h.cl
  have hnd := h.nd
  rw [ht] at hnd
  obtain ⟨hqt, hnd⟩ := List.nodup_cons.1 hnd
  have hq : q < n := h.todo_lt q (by rw [ht]; simp)
  refine ⟨h.cl, by simpa [FSt.pop] using h.wl, h.way, h.fst, fun r hr hn2 hw a v hav => ?_, hnd, fun r => ?_, fun r hr hm => h.had r hr (by rw [ht]; exact List.mem_cons_of_mem _ hm)⟩
  · by_cases e : r = q
    · subst e; exact .inl ⟨rfl, hav⟩
    · have hw' : s.wait.getD r false = false := by
        simp only [FSt.pop] at hw
        rw [List.getD_eq_getElem?_getD, List.getElem?_set_ne (fun e' => e e'.symm), ← List.getD_eq_getElem?_getD] at hw
        exact hw
      rcases h.edge r hr hn2 hw' a v hav with ⟨_, h2⟩ | h2
      · simp at h2
      · exact .inr h2
  · simp only [FSt.pop]
    by_cases e : r = q
    · subst e
      rw [getD_ff (by simpa using by omega)]
      simpa using hqt
    · rw [List.getD_eq_getElem?_getD, List.getElem?_set_ne (fun e' => e e'.symm), ← List.getD_eq_getElem?_getD, ← h.mem r, ht]
      simp [e]

theorem FSt.put_cost (s : FSt) (q : Nat) : (s.put q).cost = s.cost := by unfold FSt.put; split <;> rfl
theorem FSt.put_todo (s : FSt) (q : Nat) : (s.put q).todo.length ≤ s.todo.length + 1 := by unfold FSt.put; split <;> simp

/-- how much is left to be done -/
def FSt.pot (s : FSt) : Nat := 2 * (s.cost.map Int.toNat).sum + s.todo.length
theorem sum_set_lt (l : List Int) (p : Nat) (hp : p < l.length) (c : Int) (h0 : 0 ≤ c) (hc : c < l[p]) : ((l.set p c).map Int.toNat).sum + 1 ≤ (l.map Int.toNat).sum := by
  induction l generalizing p with
  | nil => simp at hp
  | cons a l ih =>
    cases p with
    | zero => simp only [List.set_cons_zero, List.map_cons, List.sum_cons, List.getElem_cons_zero] at *; omega
    | succ p => simp only [List.set_cons_succ, List.map_cons, List.sum_cons, List.getElem_cons_succ] at *; have := ih p (by simpa using hp) hc; omega
theorem FSt.relax_pot {s : FSt} {q : Nat} {e : Nat × Int} (hp : e.1 < s.cost.length) (h0 : 0 ≤ s.cost.getD q 0 + e.2) : (s.relax q e).pot ≤ s.pot := by
  unfold FSt.relax
  split
  · rename_i hlt
    have h1 := FSt.put_todo { s with cost := s.cost.set e.1 (s.cost.getD q 0 + e.2) } e.1
    have h2 := FSt.put_cost { s with cost := s.cost.set e.1 (s.cost.getD q 0 + e.2) } e.1
    rw [getD_int (l := s.cost) (q := e.1) hp] at hlt
    have h3 := sum_set_lt s.cost e.1 hp _ h0 hlt
    unfold FSt.pot
    rw [h2]
    simp only at h1 ⊢
    omega
  · exact Nat.le_refl _

/-- all edges of a state are looked at -/
theorem FInv.relaxes (ho : FarOk n first E) {q : Nat} (hq : q < n) : ∀ (l : List (Nat × Int)) (s : FSt), FInv n first E s q l → s.cost.getD q 0 ≠ NONE → (∀ e ∈ l, e ∈ E.getD q []) →
    FInv n first E (s.relaxes q l) q [] ∧ (s.relaxes q l).pot ≤ s.pot := by
  intro l
  induction l with
  | nil => intro s h _ _; exact ⟨h, Nat.le_refl _⟩
  | cons e l ih =>
    intro s h hn hl
    obtain ⟨h1, h2⟩ := h.relax ho hq hn (hl e (by simp))
    have h3 := ih (s.relax q e) h1 (by rw [h2]; exact hn) (fun e' he' => hl e' (by simp [he']))
    have hb := ho.edge (p := e.1) (w := e.2) (hl e (by simp))
    refine ⟨h3.1, Nat.le_trans h3.2 (FSt.relax_pot (by have := h.cl; omega) ?_)⟩
    have := (h.cost_b q hq).1
    omega

/-- d is how far it is to q -/
def IsDist (first : List Int) (E : Edges) (q : Nat) (d : Int) : Prop := (d = 1000000001 ∧ ∀ c, ¬ Way first E q c) ∨ (0 ≤ d ∧ d ≤ 1000000000 ∧ Way first E q d ∧ ∀ c, Way first E q c → d ≤ c)

theorem FInv.low (ho : FarOk n first E) {s : FSt} {q0 : Nat} (h : FInv n first E s q0 []) (ht : s.todo = []) {q : Nat} {c : Int} (hw : Way first E q c) : c ≤ 1000000000 → s.cost.getD q 0 ≤ c := by
  have hcl := h.cl; have hfl := ho.fl
  induction hw with
  | @start q hq hw => intro _; rw [getD_int (by omega)]; exact h.fst q (by omega) hq hw
  | @step q p c w hw he ih =>
    intro hc
    have hb := ho.edge he
    have h1 := ih (by omega)
    have hqc : q < s.cost.length := by omega
    have hn : s.cost[q] ≠ NONE := by rw [getD_int hqc] at h1; have := none_gt; omega
    have hwt : s.wait.getD q false = false := by
      cases hv : s.wait.getD q false with
      | false => rfl
      | true => have := (h.mem q).2 hv; rw [ht] at this; simp at this
    rcases h.edge q hqc hn hwt p w he with ⟨_, h2⟩ | h2
    · simp at h2
    · rw [getD_int hqc] at h1; omega
/-- when the queue is empty the costs are the distances -/
theorem FInv.done (ho : FarOk n first E) {s : FSt} {q0 : Nat} (h : FInv n first E s q0 []) (ht : s.todo = []) (hs : ∀ q c, Way first E q c → ∃ c', Way first E q c' ∧ c' ≤ 1000000000) {q : Nat} (hq : q < n) :
    (s.cost.getD q 0 = NONE ∧ ∀ c, ¬ Way first E q c) ∨ (0 ≤ s.cost.getD q 0 ∧ s.cost.getD q 0 ≤ 1000000000 ∧ Way first E q (s.cost.getD q 0) ∧ ∀ c, Way first E q c → s.cost.getD q 0 ≤ c) := by
  have hcl := h.cl
  have hg := getD_int (l := s.cost) (q := q) (by omega)
  rcases h.way q (by omega) with h1 | h1
  · left
    rw [hg]
    refine ⟨h1, fun c hc => ?_⟩
    obtain ⟨c', hc', hl⟩ := hs q c hc
    have := h.low ho ht hc' hl
    have := none_gt
    omega
  · right
    rw [← hg] at h1
    obtain ⟨c', hc', hl⟩ := hs q _ h1.2.2
    have h2 := h.low ho ht hc' hl
    refine ⟨h1.1, by omega, h1.2.2, fun c hc => ?_⟩
    by_cases hle : c ≤ 1000000000
    · exact h.low ho ht hc hle
    · omega

/-! ### how it begins -/
def cost0 (first : List Int) : List Int := first.map fun w => if w = 1000000001 then NONE else w
def start0 (first : List Int) (k : Nat) : FSt := (List.range k).foldl (fun s q => if s.cost.getD q 0 = NONE then s else s.put q) ⟨cost0 first, List.replicate first.length false, []⟩
theorem start0_succ (first : List Int) (k : Nat) : start0 first (k + 1) = if (start0 first k).cost.getD k 0 = NONE then start0 first k else (start0 first k).put k := by
  unfold start0; rw [List.range_succ, List.foldl_append]; rfl
theorem start0_cost (first : List Int) (k : Nat) : (start0 first k).cost = cost0 first := by
  induction k with
  | zero => rfl
  | succ k ih =>
    rw [start0_succ]; split
    · exact ih
    · rw [FSt.put_cost, ih]
theorem start0_inv (first : List Int) (k : Nat) (hk : k ≤ first.length) : (start0 first k).wait.length = first.length ∧ (start0 first k).todo.Nodup ∧ (∀ q, q ∈ (start0 first k).todo ↔ (start0 first k).wait.getD q false = true) ∧
    (∀ q, q ∈ (start0 first k).todo → q < k ∧ (cost0 first).getD q 0 ≠ NONE) ∧ (∀ q, q < k → (cost0 first).getD q 0 ≠ NONE → q ∈ (start0 first k).todo) := by
  induction k with
  | zero =>
    refine ⟨by simp [start0], by simp [start0], fun q => ?_, fun q h => by simp [start0] at h, fun q h => absurd h (by omega)⟩
    simp [start0, List.getD_eq_getElem?_getD, List.getElem?_replicate]
    split <;> rfl
  | succ k ih =>
    obtain ⟨h1, h2, h3, h4, h5⟩ := ih (by omega)
    have hc := start0_cost first k
    rw [start0_succ, hc]
    by_cases hn : (cost0 first).getD k 0 = NONE
    · rw [if_pos hn]
      refine ⟨h1, h2, h3, fun q hq => ⟨by have := (h4 q hq).1; omega, (h4 q hq).2⟩, fun q hq hq2 => h5 q ?_ hq2⟩
      have : q ≠ k := fun e => hq2 (e ▸ hn)
      omega
    · rw [if_neg hn]
      have hkm : k ∉ (start0 first k).todo := fun h => by have := (h4 k h).1; omega
      have hkw : ¬ (start0 first k).wait.getD k true = true := by
        rw [getD_ff (by omega)]
        intro h
        exact hkm ((h3 k).2 (by rw [getD_ff (by omega)]; exact h))
      unfold FSt.put
      rw [if_neg hkw]
      refine ⟨by simpa using h1, ?_, fun q => ?_, fun q hq => ?_, fun q hq hq2 => ?_⟩
      · exact List.nodup_append.2 ⟨h2, by simp, by intro a ha b hb; simp at hb; subst hb; intro e; subst e; exact hkm ha⟩
      · rw [List.mem_append, List.mem_singleton]
        simp only
        by_cases e : q = k
        · subst e; rw [getD_ff (by simpa using by omega)]; simp
        · rw [h3 q, List.getD_eq_getElem?_getD, List.getD_eq_getElem?_getD, List.getElem?_set_ne (fun e' => e e'.symm)]
          simp [e]
      · rcases List.mem_append.1 hq with h | h
        · exact ⟨by have := (h4 q h).1; omega, (h4 q h).2⟩
        · simp at h; subst h; exact ⟨by omega, hn⟩
      · rw [List.mem_append]
        by_cases e : q = k
        · subst e; right; simp
        · exact .inl (h5 q (by omega) hq2)
theorem start0_FInv (ho : FarOk n first E) : FInv n first E (start0 first n) 0 [] := by
  have hfl := ho.fl
  obtain ⟨h1, h2, h3, h4, h5⟩ := start0_inv first n (by omega)
  have hc := start0_cost first n
  have hl : (cost0 first).length = first.length := by simp [cost0]
  have hcg : ∀ q (h : q < first.length), (cost0 first)[q]'(by omega) = if first[q] = 1000000001 then NONE else first[q] := fun q h => by simp [cost0]
  refine ⟨by rw [hc]; omega, by omega, fun q hq => ?_, fun q hq hq' hf => ?_, fun q hq hn hw p w he => ?_, h2, h3, fun q hq hm => ?_⟩
  · simp only [hc] at hq ⊢
    rw [hcg q (by omega)]
    have hb := ho.fb _ (List.getElem_mem (show q < first.length by omega))
    split
    · exact .inl rfl
    · rename_i hf
      have := none_gt
      exact .inr ⟨hb.1, by omega, .start _ hf⟩
  · simp only [hc] at hq ⊢
    rw [hcg q hq', if_neg hf]
    exact Int.le_refl _
  · simp only [hc] at hq hn
    have := h5 q (by omega) (by rw [getD_int hq]; exact hn)
    rw [(h3 q).1 this] at hw
    cases hw
  · simp only [hc] at hq ⊢
    have := (h4 q hm).2
    rw [getD_int hq] at this
    exact this
end
end Go.Proofs.Ytikkmoleneioeaa
