/- Distances (plain): what a queue of waiting states computes is the least cost of a way. -/
/- distance.far: its memory, and the closure that lays a state into the queue. -/
/- distance.far walked. -/
import Derived.ProofKit
import Derived.Test.YtkmnacchiagipaaDoorRows
import Derived.Test.YtkmnacchiagipaaDoorQueue
import Derived.Test.YtkmnacchiagipaaDoorSlices
import Derived.LoopTactic
import Derived.Deep.LoopGhost
import Derived.Deep.DeepCutAuto
import Derived.Deep.QuietTactic
import Derived.BigQuiet
import Derived.IntWalk
namespace Go.Proofs.YtkmnacchiagipaaDoor

abbrev Edges := List (List (Nat × Int))

/-- a way to a state, and what it costs -/
inductive Way (first : List Int) (E : Edges) : Nat → Int → Prop where
  | start {q : Nat} (h : q < first.length) (hw : first[q] ≠ 1000000001) : Way first E q first[q]
  | step {q p : Nat} {c w : Int} (h : Way first E q c) (he : (p, w) ∈ E.getD q []) : Way first E p (c + w)

/-- what is asked of the numbers -/
structure FarOk (n : Nat) (first : List Int) (E : Edges) : Prop where
  fl : first.length = n
  el : E.length = n
  fb : ∀ x ∈ first, 0 ≤ x ∧ x ≤ 1000000001
  eb : ∀ l ∈ E, ∀ e ∈ l, e.1 < n ∧ 0 ≤ e.2 ∧ e.2 ≤ 1000000000

section
variable {n : Nat} {first : List Int} {E : Edges}
theorem FarOk.edge (h : FarOk n first E) {q p : Nat} {w : Int} (he : (p, w) ∈ E.getD q []) : q < n ∧ p < n ∧ 0 ≤ w ∧ w ≤ 1000000000 := by
  rcases Nat.lt_or_ge q E.length with hq | hq
  · have hg : E.getD q [] = E[q] := by simp [List.getD_eq_getElem?_getD, hq]
    rw [hg] at he
    have := h.eb _ (List.getElem_mem hq) _ he
    exact ⟨by have := h.el; omega, this⟩
  · simp [List.getD_eq_getElem?_getD, List.getElem?_eq_none hq] at he
theorem Way.lt (h : FarOk n first E) {q : Nat} {c : Int} (hw : Way first E q c) : q < n := by
  induction hw with
  | start hq _ => have := h.fl; omega
  | step _ he _ => exact (h.edge he).2.1
theorem Way.nn (h : FarOk n first E) {q : Nat} {c : Int} (hw : Way first E q c) : 0 ≤ c := by
  induction hw with
  | start hq _ => exact (h.fb _ (List.getElem_mem hq)).1
  | step _ he ih => have := (h.edge he).2.2.1; omega

/-- a way that meets no state twice -/
inductive Simple (first : List Int) (E : Edges) : Nat → List Nat → Prop where
  | start {q : Nat} (h : q < first.length) (hw : first[q] ≠ 1000000001) : Simple first E q [q]
  | step {q p : Nat} {w : Int} {vs : List Nat} (h : Simple first E q vs) (hp : p ∉ vs) (he : (p, w) ∈ E.getD q []) : Simple first E p (p :: vs)

theorem Simple.cut {q : Nat} {vs : List Nat} (h : Simple first E q vs) : ∀ p ∈ vs, ∃ us, Simple first E p us := by
  induction h with
  | start hq hw => intro p hp; simp at hp; subst hp; exact ⟨_, .start hq hw⟩
  | step h hp he ih =>
    intro r hr
    rcases List.mem_cons.1 hr with rfl | hr
    · exact ⟨_, .step h hp he⟩
    · exact ih r hr
theorem Way.simple {q : Nat} {c : Int} (h : Way first E q c) : ∃ vs, Simple first E q vs := by
  induction h with
  | start hq hw => exact ⟨_, .start hq hw⟩
  | @step q p c w h he ih =>
    obtain ⟨vs, hs⟩ := ih
    by_cases hp : p ∈ vs
    · exact hs.cut p hp
    · exact ⟨_, .step hs hp he⟩
theorem Simple.nodup {q : Nat} {vs : List Nat} (h : Simple first E q vs) : vs.Nodup := by
  induction h with
  | start => simp
  | step _ hp _ ih => exact List.nodup_cons.2 ⟨hp, ih⟩
theorem Simple.lt (ho : FarOk n first E) {q : Nat} {vs : List Nat} (h : Simple first E q vs) : ∀ p ∈ vs, p < n := by
  induction h with
  | start hq _ => intro p hp; simp at hp; subst hp; have := ho.fl; omega
  | step _ _ he ih =>
    intro r hr
    rcases List.mem_cons.1 hr with rfl | hr
    · exact (ho.edge he).2.1
    · exact ih r hr
theorem nodup_lt_len : ∀ (n : Nat) (l : List Nat), l.Nodup → (∀ x ∈ l, x < n) → l.length ≤ n := by
  intro n
  induction n with
  | zero =>
    intro l _ h
    cases l with
    | nil => simp
    | cons a l => exact absurd (h a (by simp)) (by omega)
  | succ n ih =>
    intro l hd h
    by_cases hn : n ∈ l
    · have h1 := List.length_erase_of_mem hn
      have h2 := ih (l.erase n) (hd.erase n) (fun x hx => by
        have h3 := (hd.mem_erase_iff).1 hx
        have := h x h3.2
        have := h3.1
        omega)
      have := List.length_pos_of_mem hn
      omega
    · have := ih l hd (fun x hx => by
        have := h x hx
        have : x ≠ n := fun e => hn (e ▸ hx)
        omega)
      omega
theorem Simple.way (ho : FarOk n first E) {F W : Int} (hF : ∀ x ∈ first, x = 1000000001 ∨ x ≤ F) (hW : ∀ l ∈ E, ∀ e ∈ l, e.2 ≤ W) {q : Nat} {vs : List Nat} (h : Simple first E q vs) :
    ∃ c, Way first E q c ∧ c + W ≤ F + W * vs.length := by
  induction h with
  | @start q hq hw =>
    refine ⟨_, .start hq hw, ?_⟩
    rcases hF _ (List.getElem_mem hq) with h | h
    · exact absurd h hw
    · simp; exact h
  | @step q p w vs h hp he ih =>
    obtain ⟨c, hc, hb⟩ := ih
    refine ⟨_, .step hc he, ?_⟩
    have hq := (ho.edge he).1
    have hg : E.getD q [] = E[q]'(by have := ho.el; omega) := by simp [List.getD_eq_getElem?_getD, show q < E.length by have := ho.el; omega]
    have hw := hW _ (List.getElem_mem (show q < E.length by have := ho.el; omega)) (p, w) (hg ▸ he)
    simp only [List.length_cons]
    push_cast
    rw [Int.mul_add]
    simp only at hw
    omega
/-- a state that can be had can be had for little -/
theorem way_small (ho : FarOk n first E) {F W : Int} (hF : ∀ x ∈ first, x = 1000000001 ∨ x ≤ F) (hW : ∀ l ∈ E, ∀ e ∈ l, e.2 ≤ W) (h0 : 0 ≤ W) {q : Nat} {c : Int} (h : Way first E q c) : ∃ c', Way first E q c' ∧ c' + W ≤ F + W * n := by
  obtain ⟨vs, hs⟩ := h.simple
  obtain ⟨c', hc, hb⟩ := hs.way ho hF hW
  refine ⟨c', hc, Int.le_trans hb ?_⟩
  have h1 := nodup_lt_len n vs hs.nodup (hs.lt ho)
  have := Int.mul_le_mul_of_nonneg_left (show (vs.length : Int) ≤ n by omega) h0
  omega

/-! ### the queue -/
structure FSt where
  cost : List Int
  wait : List Bool
  todo : List Nat

def FSt.put (s : FSt) (q : Nat) : FSt := if s.wait.getD q true = true then s else { s with wait := s.wait.set q true, todo := s.todo ++ [q] }
def FSt.relax (s : FSt) (q : Nat) (e : Nat × Int) : FSt :=
  if s.cost.getD q 0 + e.2 < s.cost.getD e.1 0 then FSt.put { s with cost := s.cost.set e.1 (s.cost.getD q 0 + e.2) } e.1 else s
def FSt.relaxes (s : FSt) (q : Nat) (l : List (Nat × Int)) : FSt := l.foldl (fun s e => s.relax q e) s

/-- 2^60 -/
def NONE : Int := 1152921504606846976
theorem NONE_eq : NONE = 1152921504606846976 := rfl
theorem none_gt : (2000000001 : Int) < NONE := by unfold NONE; omega
theorem none_lt : NONE < (9000000000000000000 : Int) := by unfold NONE; omega

/-- what holds while edges 'rest' of q0 are still to be looked at -/
structure FInv (n : Nat) (first : List Int) (E : Edges) (s : FSt) (q0 : Nat) (rest : List (Nat × Int)) : Prop where
  cl : s.cost.length = n
  wl : s.wait.length = n
  way : ∀ q (h : q < s.cost.length), s.cost[q] = NONE ∨ (0 ≤ s.cost[q] ∧ s.cost[q] < NONE ∧ Way first E q s.cost[q])
  fst : ∀ q (h : q < s.cost.length) (h' : q < first.length), first[q] ≠ 1000000001 → s.cost[q] ≤ first[q]
  edge : ∀ q (h : q < s.cost.length), s.cost[q] ≠ NONE → s.wait.getD q false = false → ∀ p w, (p, w) ∈ E.getD q [] → (q = q0 ∧ (p, w) ∈ rest) ∨ s.cost.getD p 0 ≤ s.cost[q] + w
  nd : s.todo.Nodup
  mem : ∀ q, q ∈ s.todo ↔ s.wait.getD q false = true
  had : ∀ q (h : q < s.cost.length), q ∈ s.todo → s.cost[q] ≠ NONE

theorem getD_int {l : List Int} {q : Nat} (h : q < l.length) : l.getD q 0 = l[q] := by simp [List.getD_eq_getElem?_getD, h]
theorem getD_ff {l : List Bool} {q : Nat} (h : q < l.length) (b : Bool) : l.getD q b = l[q] := by simp [List.getD_eq_getElem?_getD, h]
theorem getD_true_lt {l : List Bool} {q : Nat} (h : l.getD q false = true) : q < l.length := by
  rcases Nat.lt_or_ge q l.length with h' | h'
  · exact h'
  · simp [List.getD_eq_getElem?_getD, List.getElem?_eq_none h'] at h

theorem FInv.todo_lt {s : FSt} {q0 : Nat} {rest : List (Nat × Int)} (h : FInv n first E s q0 rest) : ∀ q ∈ s.todo, q < n := fun q hq => by
  have := getD_true_lt ((h.mem q).1 hq); have := h.wl; omega
theorem FInv.todo_len {s : FSt} {q0 : Nat} {rest : List (Nat × Int)} (h : FInv n first E s q0 rest) : s.todo.length ≤ n := nodup_lt_len n _ h.nd h.todo_lt
theorem FInv.cost_b {s : FSt} {q0 : Nat} {rest : List (Nat × Int)} (h : FInv n first E s q0 rest) (q : Nat) (hq : q < n) : 0 ≤ s.cost.getD q 0 ∧ s.cost.getD q 0 ≤ NONE := by
  have hc := h.cl
  rw [getD_int (by omega)]
  rcases h.way q (by omega) with h1 | h1
  · rw [h1]; unfold NONE; omega
  · omega

/-- a state is laid into the queue, whose cost has just been lowered -/
theorem FInv.lower (ho : FarOk n first E) {s : FSt} {q0 : Nat} {rest : List (Nat × Int)} (h : FInv n first E s q0 rest) {p : Nat} (hp : p < n) {c : Int} (hlt : c < s.cost.getD p 0) (hway : Way first E p c) (hq : p = q0 → rest = []) :
    FInv n first E (FSt.put { s with cost := s.cost.set p c } p) q0 rest := by
  have hcl := h.cl; have hwl := h.wl
  have c0 := hway.nn ho
  have hpc := h.cost_b p hp
  have cn : c ≠ NONE := by omega
  have key : ∀ (s' : FSt), s'.cost = s.cost.set p c → s'.wait = s.wait.set p true → s'.todo.Nodup → (∀ q, q ∈ s'.todo ↔ s'.wait.getD q false = true) → FInv n first E s' q0 rest := by
    intro s' e1 e2 hnd hmem
    have hwp : s'.wait.getD p false = true := by rw [e2, getD_ff (by simpa using by omega)]; simp
    refine ⟨by rw [e1]; simpa using hcl, by rw [e2]; simpa using hwl, fun q hq => ?_, fun q hq hq' hf => ?_, fun q hq hn hw a w he => ?_, hnd, hmem, fun q hq hm => ?_⟩
    · simp only [e1] at hq ⊢
      rw [List.length_set] at hq
      by_cases e : p = q
      · subst e; rw [List.getElem_set_self]; exact .inr ⟨c0, by omega, hway⟩
      · rw [List.getElem_set_ne e]; exact h.way q hq
    · simp only [e1] at hq ⊢
      rw [List.length_set] at hq
      by_cases e : p = q
      · subst e; rw [List.getElem_set_self]
        have := h.fst p hq hq' hf
        rw [getD_int hq] at hlt; omega
      · rw [List.getElem_set_ne e]; exact h.fst q hq hq' hf
    · have hne : p ≠ q := fun e => by subst e; rw [hwp] at hw; cases hw
      simp only [e1] at hq hn ⊢
      rw [List.length_set] at hq
      rw [List.getElem_set_ne hne] at hn ⊢
      have hw' : s.wait.getD q false = false := by
        rw [e2] at hw
        rw [getD_ff (by simpa using by omega), List.getElem_set_ne hne] at hw
        rw [getD_ff (by omega)]; exact hw
      rcases h.edge q hq hn hw' a w he with h1 | h1
      · exact .inl h1
      · right
        have ha := (ho.edge he).2.1
        by_cases e : p = a
        · subst e
          rw [getD_int (by simpa using by omega), List.getElem_set_self]
          omega
        · rw [getD_int (by simpa using by omega), List.getElem_set_ne e]
          rw [getD_int (by omega)] at h1
          exact h1
    · have hm' := (hmem q).1 hm
      simp only [e1] at hq ⊢
      rw [List.length_set] at hq
      by_cases e : p = q
      · subst e; rw [List.getElem_set_self]; exact cn
      · rw [List.getElem_set_ne e]
        refine h.had q hq ((h.mem q).2 ?_)
        rw [e2, getD_ff (by simpa using by omega), List.getElem_set_ne e] at hm'
        rw [getD_ff (by omega)]; exact hm'
  unfold FSt.put
  simp only
  split
  · rename_i hw
    rw [getD_ff (by omega)] at hw
    refine key _ rfl ?_ h.nd h.mem
    apply List.ext_getElem
    · simp
    · intro i h1 h2
      by_cases e : p = i
      · subst e; simp [hw]
      · rw [List.getElem_set_ne e]
  · rename_i hw
    rw [getD_ff (by omega)] at hw
    have hw' : s.wait.getD p false = false := by rw [getD_ff (by omega)]; simpa using hw
    have hnot : p ∉ s.todo := fun hm => by rw [(h.mem p).1 hm] at hw'; cases hw'
    refine key _ rfl rfl ?_ ?_
    · exact List.nodup_append.2 ⟨h.nd, by simp, by intro a ha b hb; simp at hb; subst hb; intro e; subst e; exact hnot ha⟩
    · intro q
      rw [List.mem_append, List.mem_singleton]
      simp only
      by_cases e : q = p
      · subst e; rw [getD_ff (by simpa using by omega)]; simp
      · rw [h.mem q]
        simp only [e, or_false]
        rw [List.getD_eq_getElem?_getD, List.getD_eq_getElem?_getD, List.getElem?_set_ne (fun e' => e e'.symm)]

/-- one edge is looked at -/
theorem FInv.relax (ho : FarOk n first E) {s : FSt} {q : Nat} {e : Nat × Int} {rest : List (Nat × Int)} (h : FInv n first E s q (e :: rest)) (hq : q < n) (hn : s.cost.getD q 0 ≠ NONE) (he : e ∈ E.getD q []) :
    FInv n first E (s.relax q e) q rest ∧ (s.relax q e).cost.getD q 0 = s.cost.getD q 0 := by
  obtain ⟨p, w⟩ := e
  have hb := ho.edge he
  have hcl := h.cl
  unfold FSt.relax
  simp only
  split
  · rename_i hlt
    have hne : p ≠ q := by rintro rfl; omega
    have hway : Way first E p (s.cost.getD q 0 + w) := by
      rw [getD_int (by omega)] at hn ⊢
      rcases h.way q (by omega) with h1 | h1
      · exact absurd h1 hn
      · exact .step h1.2.2 he
    have h1 : FInv n first E (FSt.put { s with cost := s.cost.set p (s.cost.getD q 0 + w) } p) q ((p, w) :: rest) := by
      refine FInv.lower ho h hb.2.1 hlt hway (fun e => absurd e hne)
    have hcost : (FSt.put { s with cost := s.cost.set p (s.cost.getD q 0 + w) } p).cost = s.cost.set p (s.cost.getD q 0 + w) := by
      unfold FSt.put; split <;> rfl
    have hcq : (FSt.put { s with cost := s.cost.set p (s.cost.getD q 0 + w) } p).cost.getD q 0 = s.cost.getD q 0 := by
      rw [hcost, List.getD_eq_getElem?_getD, List.getD_eq_getElem?_getD, List.getElem?_set_ne hne]
    have hcp : (FSt.put { s with cost := s.cost.set p (s.cost.getD q 0 + w) } p).cost.getD p 0 = s.cost.getD q 0 + w := by
      rw [hcost, getD_int (by simpa using by omega), List.getElem_set_self]
    refine ⟨⟨h1.cl, h1.wl, h1.way, h1.fst, fun r hr hn2 hw a v hav => ?_, h1.nd, h1.mem, h1.had⟩, hcq⟩
    rcases h1.edge r hr hn2 hw a v hav with ⟨rfl, h2⟩ | h2
    · rcases List.mem_cons.1 h2 with h3 | h3
      · right
        injection h3 with h4 h5
        subst h4; subst h5
        rw [hcp, ← getD_int hr, hcq]
        exact Int.le_refl _
      · exact .inl ⟨rfl, h3⟩
    · exact .inr h2
  · rename_i hge
    refine ⟨⟨h.cl, h.wl, h.way, h.fst, fun r hr hn2 hw a v hav => ?_, h.nd, h.mem, h.had⟩, rfl⟩
    rcases h.edge r hr hn2 hw a v hav with ⟨rfl, h2⟩ | h2
    · rcases List.mem_cons.1 h2 with h3 | h3
      · right
        injection h3 with h4 h5
        subst h4; subst h5
        rw [← getD_int hr]
        omega
      · exact .inl ⟨rfl, h3⟩
    · exact .inr h2

/-- a state leaves the queue -/
def FSt.pop (s : FSt) (q : Nat) (t : List Nat) : FSt := { s with wait := s.wait.set q false, todo := t }
theorem FInv.pop {s : FSt} {q0 q : Nat} {t : List Nat} (h : FInv n first E s q0 []) (ht : s.todo = q :: t) : FInv n first E (s.pop q t) q (E.getD q []) := by
  have hwl := h.wl; have hcl := h.cl
  have hnd := h.nd
  rw [ht] at hnd
  obtain ⟨hqt, hnd⟩ := List.nodup_cons.1 hnd
  have hq : q < n := h.todo_lt q (by rw [ht]; simp)
  refine ⟨h.cl, by simpa [FSt.pop] using h.wl, h.way, h.fst, fun r hr hn2 hw a v hav => ?_, hnd, fun r => ?_, fun r hr hm => h.had r hr (by rw [ht]; exact List.mem_cons_of_mem _ hm)⟩
  · by_cases e : r = q
    · subst e; exact .inl ⟨rfl, hav⟩
    · have hw' : s.wait.getD r false = false := by
        simp only [FSt.pop] at hw
        rw [List.getD_eq_getElem?_getD, List.getElem?_set_ne (fun e' => e e'.symm), ← List.getD_eq_getElem?_getD] at hw
        exact hw
      rcases h.edge r hr hn2 hw' a v hav with ⟨_, h2⟩ | h2
      · simp at h2
      · exact .inr h2
  · simp only [FSt.pop]
    by_cases e : r = q
    · subst e
      rw [getD_ff (by simpa using by omega)]
      simpa using hqt
    · rw [List.getD_eq_getElem?_getD, List.getElem?_set_ne (fun e' => e e'.symm), ← List.getD_eq_getElem?_getD, ← h.mem r, ht]
      simp [e]

theorem FSt.put_cost (s : FSt) (q : Nat) : (s.put q).cost = s.cost := by unfold FSt.put; split <;> rfl
theorem FSt.put_todo (s : FSt) (q : Nat) : (s.put q).todo.length ≤ s.todo.length + 1 := by unfold FSt.put; split <;> simp

/-- how much is left to be done -/
def FSt.pot (s : FSt) : Nat := 2 * (s.cost.map Int.toNat).sum + s.todo.length
theorem sum_set_lt (l : List Int) (p : Nat) (hp : p < l.length) (c : Int) (h0 : 0 ≤ c) (hc : c < l[p]) : ((l.set p c).map Int.toNat).sum + 1 ≤ (l.map Int.toNat).sum := by
  induction l generalizing p with
  | nil => simp at hp
  | cons a l ih =>
    cases p with
    | zero => simp only [List.set_cons_zero, List.map_cons, List.sum_cons, List.getElem_cons_zero] at *; omega
    | succ p => simp only [List.set_cons_succ, List.map_cons, List.sum_cons, List.getElem_cons_succ] at *; have := ih p (by simpa using hp) hc; omega
theorem FSt.relax_pot {s : FSt} {q : Nat} {e : Nat × Int} (hp : e.1 < s.cost.length) (h0 : 0 ≤ s.cost.getD q 0 + e.2) : (s.relax q e).pot ≤ s.pot := by
  unfold FSt.relax
  split
  · rename_i hlt
    have h1 := FSt.put_todo { s with cost := s.cost.set e.1 (s.cost.getD q 0 + e.2) } e.1
    have h2 := FSt.put_cost { s with cost := s.cost.set e.1 (s.cost.getD q 0 + e.2) } e.1
    rw [getD_int (l := s.cost) (q := e.1) hp] at hlt
    have h3 := sum_set_lt s.cost e.1 hp _ h0 hlt
    unfold FSt.pot
    rw [h2]
    simp only at h1 ⊢
    omega
  · exact Nat.le_refl _

/-- all edges of a state are looked at -/
theorem FInv.relaxes (ho : FarOk n first E) {q : Nat} (hq : q < n) : ∀ (l : List (Nat × Int)) (s : FSt), FInv n first E s q l → s.cost.getD q 0 ≠ NONE → (∀ e ∈ l, e ∈ E.getD q []) →
    FInv n first E (s.relaxes q l) q [] ∧ (s.relaxes q l).pot ≤ s.pot := by
  intro l
  induction l with
  | nil => intro s h _ _; exact ⟨h, Nat.le_refl _⟩
  | cons e l ih =>
    intro s h hn hl
    obtain ⟨h1, h2⟩ := h.relax ho hq hn (hl e (by simp))
    have h3 := ih (s.relax q e) h1 (by rw [h2]; exact hn) (fun e' he' => hl e' (by simp [he']))
    have hb := ho.edge (p := e.1) (w := e.2) (hl e (by simp))
    refine ⟨h3.1, Nat.le_trans h3.2 (FSt.relax_pot (by have := h.cl; omega) ?_)⟩
    have := (h.cost_b q hq).1
    omega

/-- d is how far it is to q -/
def IsDist (first : List Int) (E : Edges) (q : Nat) (d : Int) : Prop := (d = 1000000001 ∧ ∀ c, ¬ Way first E q c) ∨ (0 ≤ d ∧ d ≤ 1000000000 ∧ Way first E q d ∧ ∀ c, Way first E q c → d ≤ c)

theorem FInv.low (ho : FarOk n first E) {s : FSt} {q0 : Nat} (h : FInv n first E s q0 []) (ht : s.todo = []) {q : Nat} {c : Int} (hw : Way first E q c) : c ≤ 1000000000 → s.cost.getD q 0 ≤ c := by
  have hcl := h.cl; have hfl := ho.fl
  induction hw with
  | @start q hq hw => intro _; rw [getD_int (by omega)]; exact h.fst q (by omega) hq hw
  | @step q p c w hw he ih =>
    intro hc
    have hb := ho.edge he
    have h1 := ih (by omega)
    have hqc : q < s.cost.length := by omega
    have hn : s.cost[q] ≠ NONE := by rw [getD_int hqc] at h1; have := none_gt; omega
    have hwt : s.wait.getD q false = false := by
      cases hv : s.wait.getD q false with
      | false => rfl
      | true => have := (h.mem q).2 hv; rw [ht] at this; simp at this
    rcases h.edge q hqc hn hwt p w he with ⟨_, h2⟩ | h2
    · simp at h2
    · rw [getD_int hqc] at h1; omega
/-- when the queue is empty the costs are the distances -/
theorem FInv.done (ho : FarOk n first E) {s : FSt} {q0 : Nat} (h : FInv n first E s q0 []) (ht : s.todo = []) (hs : ∀ q c, Way first E q c → ∃ c', Way first E q c' ∧ c' ≤ 1000000000) {q : Nat} (hq : q < n) :
    (s.cost.getD q 0 = NONE ∧ ∀ c, ¬ Way first E q c) ∨ (0 ≤ s.cost.getD q 0 ∧ s.cost.getD q 0 ≤ 1000000000 ∧ Way first E q (s.cost.getD q 0) ∧ ∀ c, Way first E q c → s.cost.getD q 0 ≤ c) := by
  have hcl := h.cl
  have hg := getD_int (l := s.cost) (q := q) (by omega)
  rcases h.way q (by omega) with h1 | h1
  · left
    rw [hg]
    refine ⟨h1, fun c hc => ?_⟩
    obtain ⟨c', hc', hl⟩ := hs q c hc
    have := h.low ho ht hc' hl
    have := none_gt
    omega
  · right
    rw [← hg] at h1
    obtain ⟨c', hc', hl⟩ := hs q _ h1.2.2
    have h2 := h.low ho ht hc' hl
    refine ⟨h1.1, by omega, h1.2.2, fun c hc => ?_⟩
    by_cases hle : c ≤ 1000000000
    · exact h.low ho ht hc hle
    · omega

/-! ### how it begins -/
def cost0 (first : List Int) : List Int := first.map fun w => if w = 1000000001 then NONE else w
def start0 (first : List Int) (k : Nat) : FSt := (List.range k).foldl (fun s q => if s.cost.getD q 0 = NONE then s else s.put q) ⟨cost0 first, List.replicate first.length false, []⟩
theorem start0_succ (first : List Int) (k : Nat) : start0 first (k + 1) = if (start0 first k).cost.getD k 0 = NONE then start0 first k else (start0 first k).put k := by
  unfold start0; rw [List.range_succ, List.foldl_append]; rfl
theorem start0_cost (first : List Int) (k : Nat) : (start0 first k).cost = cost0 first := by
  induction k with
  | zero => rfl
  | succ k ih =>
    rw [start0_succ]; split
    · exact ih
    · rw [FSt.put_cost, ih]
theorem start0_inv (first : List Int) (k : Nat) (hk : k ≤ first.length) : (start0 first k).wait.length = first.length ∧ (start0 first k).todo.Nodup ∧ (∀ q, q ∈ (start0 first k).todo ↔ (start0 first k).wait.getD q false = true) ∧
    (∀ q, q ∈ (start0 first k).todo → q < k ∧ (cost0 first).getD q 0 ≠ NONE) ∧ (∀ q, q < k → (cost0 first).getD q 0 ≠ NONE → q ∈ (start0 first k).todo) := by
  induction k with
  | zero =>
    refine ⟨by simp [start0], by simp [start0], fun q => ?_, fun q h => by simp [start0] at h, fun q h => absurd h (by omega)⟩
    simp [start0, List.getD_eq_getElem?_getD, List.getElem?_replicate]
    split <;> rfl
  | succ k ih =>
    obtain ⟨h1, h2, h3, h4, h5⟩ := ih (by omega)
    have hc := start0_cost first k
    rw [start0_succ, hc]
    by_cases hn : (cost0 first).getD k 0 = NONE
    · rw [if_pos hn]
      refine ⟨h1, h2, h3, fun q hq => ⟨by have := (h4 q hq).1; omega, (h4 q hq).2⟩, fun q hq hq2 => h5 q ?_ hq2⟩
      have : q ≠ k := fun e => hq2 (e ▸ hn)
      omega
    · rw [if_neg hn]
      have hkm : k ∉ (start0 first k).todo := fun h => by have := (h4 k h).1; omega
      have hkw : ¬ (start0 first k).wait.getD k true = true := by
        rw [getD_ff (by omega)]
        intro h
        exact hkm ((h3 k).2 (by rw [getD_ff (by omega)]; exact h))
      unfold FSt.put
      rw [if_neg hkw]
      refine ⟨by simpa using h1, ?_, fun q => ?_, fun q hq => ?_, fun q hq hq2 => ?_⟩
      · exact List.nodup_append.2 ⟨h2, by simp, by intro a ha b hb; simp at hb; subst hb; intro e; subst e; exact hkm ha⟩
      · rw [List.mem_append, List.mem_singleton]
        simp only
        by_cases e : q = k
        · subst e; rw [getD_ff (by simpa using by omega)]; simp
        · rw [h3 q, List.getD_eq_getElem?_getD, List.getD_eq_getElem?_getD, List.getElem?_set_ne (fun e' => e e'.symm)]
          simp [e]
      · rcases List.mem_append.1 hq with h | h
        · exact ⟨by have := (h4 q h).1; omega, (h4 q h).2⟩
        · simp at h; subst h; exact ⟨by omega, hn⟩
      · rw [List.mem_append]
        by_cases e : q = k
        · subst e; right; simp
        · exact .inl (h5 q (by omega) hq2)
theorem start0_FInv (ho : FarOk n first E) : FInv n first E (start0 first n) 0 [] := by
  have hfl := ho.fl
  obtain ⟨h1, h2, h3, h4, h5⟩ := start0_inv first n (by omega)
  have hc := start0_cost first n
  have hl : (cost0 first).length = first.length := by simp [cost0]
  have hcg : ∀ q (h : q < first.length), (cost0 first)[q]'(by omega) = if first[q] = 1000000001 then NONE else first[q] := fun q h => by simp [cost0]
  refine ⟨by rw [hc]; omega, by omega, fun q hq => ?_, fun q hq hq' hf => ?_, fun q hq hn hw p w he => ?_, h2, h3, fun q hq hm => ?_⟩
  · simp only [hc] at hq ⊢
    rw [hcg q (by omega)]
    have hb := ho.fb _ (List.getElem_mem (show q < first.length by omega))
    split
    · exact .inl rfl
    · rename_i hf
      have := none_gt
      exact .inr ⟨hb.1, by omega, .start _ hf⟩
  · simp only [hc] at hq ⊢
    rw [hcg q hq', if_neg hf]
    exact Int.le_refl _
  · simp only [hc] at hq hn
    have := h5 q (by omega) (by rw [getD_int hq]; exact hn)
    rw [(h3 q).1 this] at hw
    cases hw
  · simp only [hc] at hq ⊢
    have := (h4 q hm).2
    rw [getD_int hq] at this
    exact this
end
end Go.Proofs.YtkmnacchiagipaaDoor

namespace Go.Proofs.YtkmnacchiagipaaDoor
open Go.RowKit

abbrev icellsA (l : List Int) : Array Value := (l.map (Value.int .i64)).toArray
theorem icellsA_get (l : List Int) (p : Nat) (h : p < l.length) : (icellsA l)[p]? = some (.int .i64 (l.getD p 0)) := by
  simp [icellsA, h, List.getD_eq_getElem?_getD]
theorem icellsA_set (l : List Int) (p : Nat) (x : Int) : (icellsA l).setIfInBounds p (.int .i64 x) = icellsA (l.set p x) := by
  simp [icellsA, List.map_set]

/-- a slice of edges reads as l -/
structure ERow (w : World) (A : Option Addr) (l : List (Nat × Int)) : Prop where
  rdy : Rdy A l.length
  c0 : ∀ i (h : i < l.length), w.cell? ⟨blk A, ofs A + i * 2, none⟩ = some (.int .i64 (l[i].1 : Nat))
  c1 : ∀ i (h : i < l.length), w.cell? ⟨blk A, ofs A + i * 2 + 1, none⟩ = some (.int .i64 l[i].2)
structure EdgesAt (w : World) (A : Option Addr) (E : Edges) : Prop where
  rdy : Rdy A E.length
  row : ∀ q (h : q < E.length), ∃ A' c, w.cell? ⟨blk A, ofs A + q, none⟩ = some (.slice A' E[q].length c) ∧ ERow w A' E[q]
theorem ERow.below {w w' : World} {A : Option Addr} {l : List (Nat × Int)} (h : ERow w A l) {B : Nat} (hb : Below B w w') (hB : w.heap.size ≤ B) : ERow w' A l :=
  ⟨h.rdy, fun i hi => cell_keep hb hB (h.c0 i hi), fun i hi => cell_keep hb hB (h.c1 i hi)⟩
theorem EdgesAt.below {w w' : World} {A : Option Addr} {E : Edges} (h : EdgesAt w A E) {B : Nat} (hb : Below B w w') (hB : w.heap.size ≤ B) : EdgesAt w' A E :=
  ⟨h.rdy, fun q hq => by
    obtain ⟨A', c, h1, h2⟩ := h.row q hq
    exact ⟨A', c, cell_keep hb hB h1, h2.below hb hB⟩⟩

/-- far under way; w: the world in which it was called -/
structure FW (w W : World) (n : Nat) (s : FSt) (tv : Value) : Prop where
  wl : s.wait.length = n
  cl : s.cost.length = n
  cb : Blk W w.heap.size (icellsA s.cost) 3
  tb : Blk W (w.heap.size + 1) #[tv] 29
  wb : Blk W (w.heap.size + 2) (bcells s.wait) 4
  xb : Blk W (w.heap.size + 3) #[.slice (some ⟨w.heap.size + 2, 0, none⟩) n n] 245
  own : OwnsQ W (w.heap.size + 4) 3 tv s.todo.length (ncells s.todo)
  bel : Below w.heap.size w W

section
variable {w W W' : World} {n : Nat} {s : FSt} {tv : Value}
theorem FW.keep (h : FW w W n s tv) (hb : Below W.heap.size W W') : FW w W' n s tv :=
  ⟨h.wl, h.cl, h.cb.step hb, h.tb.step hb, h.wb.step hb, h.xb.step hb, h.own.keep hb, Below.step h.bel hb⟩
theorem below_drewN (W : World) (k : Nat) : Below W.heap.size W (W.drewN k) := ⟨rfl, rfl, rfl, Nat.le_refl _, fun _ _ => rfl⟩
theorem FW.setCost (h : FW w W n s tv) (p : Nat) (c : Int) : FW w (W.setCell ⟨w.heap.size, p, none⟩ (.int .i64 c)) n { s with cost := s.cost.set p c } tv :=
  ⟨h.wl, by simpa using h.cl, by have := h.cb.put p (.int .i64 c); rw [icellsA_set] at this; exact this, h.tb.far (by simp) _, h.wb.far (by simp) _, h.xb.far (by simp) _, h.own.far (h.own.ne (by simp)) _, h.bel.setCell (by simp) _⟩
theorem FW.pop {q g o m A2 c2 c3} {cost : List Int} {wait : List Bool} {t : List Nat} (h : FW w W n ⟨cost, wait, q :: t⟩ (.slice (some ⟨g, o, none⟩) (m + 1) c3)) (hm : t.length = m) (hq : OwnsQ W (w.heap.size + 4) 3 (.slice A2 m c2) m (ncells t)) :
    FW w ((W.setCell ⟨w.heap.size + 1, 0, none⟩ (.slice A2 m c2)).setCell ⟨w.heap.size + 2, q, none⟩ (.bool false)) n (FSt.pop ⟨cost, wait, q :: t⟩ q t) (.slice A2 m c2) :=
  ⟨by simpa [FSt.pop] using h.wl, h.cl, (h.cb.far (by simp) _).far (by simp) _, ((h.tb.put 0 _).far (by simp) _).eq (by simp), by
    have := (h.wb.far (a := ⟨w.heap.size + 1, 0, none⟩) (by simp) (.slice A2 m c2)).put q (.bool false)
    rw [bcells_set] at this; exact this, (h.xb.far (by simp) _).far (by simp) _, by
    subst hm
    exact (hq.far (hq.ne (by simp)) _).far (hq.ne (by simp)) _, (h.bel.setCell (by simp) _).setCell (by simp) _⟩
theorem FW.ne (h : FW w W n s tv) {b : Nat} (hb : b < w.heap.size + 4) : tv.ownBlock ≠ some b := h.own.ne hb
end

set_option maxRecDepth 100000 in
set_option maxHeartbeats 4000000 in
theorem put_any (w W : World) (n : Nat) (s : FSt) (tv : Value) (h : FW w W n s tv) (p : Nat) (hp : p < n) (hn : n ≤ 1000) (ht : s.todo.length ≤ 1000) :
    Calls Tryd.prog 134 #[.int .i64 p, .pointer (some ⟨w.heap.size + 3, 0, none⟩), .pointer (some ⟨w.heap.size + 1, 0, none⟩)] W fun e w' => e = .returned (.tuple #[]) ∧ ∃ tv', FW w w' n (s.put p) tv' := by
  obtain ⟨cost, seen, todo⟩ := s
  have H := Lib.hid h
  have hl := h.wl
  have k1 := h.wb.cell p
  simp only at hl
  rw [bcells_get _ _ (by simpa [hl] using hp)] at k1
  have k2 := h.xb.cell; have k3 := h.tb.cell; have k4 := h.wb.froz; have k5 := h.tb.froz
  have i0 : (0 : Int) ≤ ↑p := by omega
  have i1 : (↑p : Int) < ↑n := by omega
  have l1 := h.wb.lt; have l2 := h.xb.lt; have l3 := h.tb.lt
  have hnb : n ≤ 9223372036854775807 := by omega
  simp only at k1 ht
  clear h
  by_cases hs : seen.getD p true = true
  · rw [hs] at k1
    have HV := Lib.hid (show FSt.put ⟨cost, seen, todo⟩ p = ⟨cost, seen, todo⟩ by unfold FSt.put; rw [if_pos hs])
    clear hs
    go_enter Tryd.func134, Tryd.ntmps134
    go_wp2_with fail
    go_end0
    exact ⟨rfl, tv, by rw [HV.out]; exact H.out⟩
  · have hs' : seen.getD p true = false := by simpa using hs
    rw [hs'] at k1
    have HV := Lib.hid (show FSt.put ⟨cost, seen, todo⟩ p = ⟨cost, seen.set p true, todo ++ [p]⟩ by unfold FSt.put; rw [if_neg hs])
    have HO := Lib.hid (H.out.own.far (a := ⟨w.heap.size + 2, p, none⟩) (H.out.ne (by simp)) (.bool true))
    have T1 := Lib.hid (H.out.tb.far (a := ⟨w.heap.size + 2, p, none⟩) (by simp) (.bool true))
    clear hs hs'
    go_enter Tryd.func134, Tryd.ntmps134
    go_wp2_with (at_builtin; refine wpList_queue1 rfl _ _ rfl eltInt (w.heap.size + 4) tv todo.length (ncells todo) rfl (W.setCell ⟨w.heap.size + 2, p, none⟩ (.bool true)) HO.out (.int .i64 p) rfl W.heap.size (by simp) rfl (by simp [Value.oneCell']) (by omega) (by omega) (by simp; omega) ?_; intro v3 w3 ho3 hg3 hat3; have k6 := (T1.out.grown hg3 (H.out.ne (b := w.heap.size + 1) (by omega)).symm).cell; have k7 := (T1.out.grown hg3 (H.out.ne (b := w.heap.size + 1) (by omega)).symm).froz; have l6 := (T1.out.grown hg3 (H.out.ne (b := w.heap.size + 1) (by omega)).symm).lt; obtain ⟨A3, c3, rfl, -, -, -⟩ := ho3.form)
    go_end0
    refine ⟨rfl, .slice A3 (todo.length + 1) c3, ?_⟩
    rw [HV.out]
    have hne : ∀ b, b < w.heap.size + 4 → some b ≠ tv.ownBlock := fun b hb => (H.out.ne hb).symm
    refine ⟨by simpa using hl, H.out.cl, ?_, ?_, ?_, ?_, ?_, ?_⟩
    · exact ((H.out.cb.far (by simp) _).grown hg3 (hne _ (by omega))).far (by simp) _
    · exact ((T1.out.grown hg3 (hne _ (by omega))).put 0 _).eq (by simp)
    · have h1 := H.out.wb.put p (.bool true)
      rw [bcells_set] at h1
      exact (h1.grown hg3 (hne _ (by omega))).far (by simp) _
    · exact ((H.out.xb.far (by simp) _).grown hg3 (hne _ (by omega))).far (by simp) _
    · have h1 := ho3.far (a := ⟨w.heap.size + 1, 0, none⟩) (ho3.ne (by simp)) (.slice A3 (todo.length + 1) c3)
      rw [ncells_snoc, List.length_append]
      exact h1
    · refine Below.setCell ?_ (by simp) _
      have h1 : Below w.heap.size w (W.setCell ⟨w.heap.size + 2, p, none⟩ (.bool true)) := H.out.bel.setCell (by simp) _
      refine h1.grown hg3 (by have := H.out.bel.size; simp [World.setCell]; exact this) (fun k hk => ?_)
      have := (H.out.own.lt k hk).1; omega
end Go.Proofs.YtkmnacchiagipaaDoor

namespace Go.Proofs.YtkmnacchiagipaaDoor
open Go.RowKit

theorem getD_app_l (a b : List Int) (k : Nat) (h : k < a.length) : (a ++ b).getD k 0 = a.getD k 0 := by
  simp [List.getD_eq_getElem?_getD, List.getElem?_append_left h]
def cost1 (first : List Int) (k : Nat) : List Int := (cost0 first).take k ++ List.replicate (first.length - k) 0
theorem cost1_zero (first : List Int) : cost1 first 0 = List.replicate first.length 0 := by simp [cost1]
theorem cost1_all (first : List Int) : cost1 first first.length = cost0 first := by
  unfold cost1; rw [List.take_of_length_le (by simp [cost0])]; simp
theorem cost1_succ (first : List Int) (k : Nat) (h : k < first.length) : cost1 first (k + 1) = (cost1 first k).set k (if first[k] = 1000000001 then NONE else first[k]) := by
  unfold cost1
  have hl : (cost0 first).length = first.length := by simp [cost0]
  rw [List.take_succ_eq_append_getElem (by omega), show first.length - k = (first.length - (k + 1)) + 1 by omega, List.replicate_succ, List.set_append_right _ _ (by simp; omega)]
  simp [cost0, Nat.min_eq_left (Nat.le_of_lt h)]
theorem cost1_len (first : List Int) (k : Nat) (h : k ≤ first.length) : (cost1 first k).length = first.length := by simp [cost1, cost0]; omega
def finc (c : Int) : Int := if c = NONE then 1000000001 else c
def fin1 (cost : List Int) (k : Nat) : List Int := (cost.map finc).take k ++ cost.drop k
theorem fin1_zero (cost : List Int) : fin1 cost 0 = cost := by simp [fin1]
theorem fin1_all (cost : List Int) : fin1 cost cost.length = cost.map finc := by
  unfold fin1; rw [List.take_of_length_le (by simp)]; simp
theorem fin1_len (cost : List Int) (k : Nat) : (fin1 cost k).length = cost.length := by simp [fin1]; omega
theorem fin1_get (cost : List Int) (k : Nat) (h : k < cost.length) : (fin1 cost k).getD k 0 = cost[k] := by
  unfold fin1
  rw [List.getD_eq_getElem?_getD, List.getElem?_append_right (by simp; omega)]
  simp [Nat.min_eq_left (Nat.le_of_lt h), h]
theorem fin1_succ (cost : List Int) (k : Nat) (h : k < cost.length) : fin1 cost (k + 1) = (fin1 cost k).set k (finc cost[k]) := by
  unfold fin1
  rw [List.take_succ_eq_append_getElem (by simpa using h), List.drop_eq_getElem_cons h, List.set_append_right _ _ (by simp; omega)]
  simp [Nat.min_eq_left (Nat.le_of_lt h)]
  rw [List.drop_eq_getElem_cons h, List.set_cons_zero]
theorem set_same (l : List Int) (k : Nat) (h : k < l.length) : l.set k (l.getD k 0) = l := by
  apply List.ext_getElem
  · simp
  · intro i h1 h2
    by_cases e : k = i
    · subst e; simp [List.getD_eq_getElem?_getD, h]
    · rw [List.getElem_set_ne e]
theorem madeInts (n : Nat) : madeCells #[Value.int .i64 0] n = icellsA (List.replicate n 0) := by rw [made_at]; simp [icellsA]
theorem madeBools' (n : Nat) : madeCells #[Value.bool false] n = bcells (List.replicate n false) := by rw [made_at]; simp [bcells]
theorem eltBool' : Elt Tryd.prog 245 4 (.bool false) 1 1 := ⟨Tryd.underlying245, by kernel_rfl, rfl, by omega⟩

set_option maxRecDepth 100000 in
set_option maxHeartbeats 8000000 in
theorem far_any (w : World) (n : Nat) (A AE : Option Addr) (c cE : Nat) (first : List Int) (E : Edges) (ho : FarOk n first E) (hn : n ≤ 100) (hel : ∀ l ∈ E, l.length ≤ 1000) (hf : Rd w A n 1 (icells first)) (hE : EdgesAt w AE E)
    (hs : ∀ q c, Way first E q c → ∃ c', Way first E q c' ∧ c' ≤ 1000000000) :
    Calls Tryd.prog 100 #[.slice A n c, .slice AE n cE] w fun e w' => ∃ d : List Int, e = .returned (.tuple #[.slice (some ⟨w.heap.size, 0, none⟩) n n, .int .i64 0]) ∧ Blk w' w.heap.size (icellsA d) 3 ∧ d.length = n ∧ (∀ q, q < n → IsDist first E q (d.getD q 0)) ∧ Below w.heap.size w w' := by
  have hmk := run_make_elt eltInt w n (by omega) (by omega) (by omega)
  simp only [Value.cells, Nat.mul_one, madeInts] at hmk
  have rd := hf.rdy
  have rdE := hE.rdy
  have hfl := ho.fl
  have heln := ho.el
  rw [heln] at rdE
  have HFL := Lib.hid hfl; have HELN := Lib.hid heln
  have HO := Lib.hid ho; have HF := Lib.hid hf; have HE := Lib.hid hE; have HS := Lib.hid hs; have HEL := Lib.hid hel
  have C1A := Lib.hid (cost1_all first)
  have P0 : Blk (w.alloc (.cells (icellsA (List.replicate n 0)) 3)) w.heap.size (icellsA (cost1 first 0)) 3 := by rw [cost1_zero, hfl]; exact Blk.new _ _ _
  have SZ0 : (w.alloc (.cells (icellsA (List.replicate n 0)) 3)).heap.size = w.heap.size + 1 := by simp
  have B0 : Below w.heap.size w (w.alloc (.cells (icellsA (List.replicate n 0)) 3)) := (by repeat' (first | exact Below.refl _ _ | assumption | refine Below.drew ?_ | refine Below.alloc ?_ (by first | omega | (simp; done) | (simp; omega)) _ | refine Below.setCell ?_ (by first | omega | (simp; done) | (simp; omega)) _))
  have SZ := Lib.hid SZ0
  clear ho hf hE hs hfl heln hel SZ0
  go_enter Tryd.func100, Tryd.ntmps100
  go_wp2_with fail
  clear hmk
  generalize w.alloc (.cells (icellsA (List.replicate n 0)) 3) = w1 at *
  go_loopw [24] (fun i wr => ∃ k : Nat, k ≤ n ∧ i = .int .i64 k ∧ Blk wr w.heap.size (icellsA (cost1 first k)) 3 ∧ Below w.heap.size w wr ∧ wr.heap.size = w.heap.size + 1) (fun i _ => n - (intOf i).toNat)
  case atStart => exact ⟨0, by omega, rfl, P0, B0, SZ.out⟩
  case round =>
    obtain ⟨k, hk, rfl, hC, bel, hsz⟩ := hrel
    have HC := Lib.hid hC
    have HSZ := Lib.hid hsz
    have l1 := hC.lt
    by_cases hlt : k < n
    · have hkf : k < first.length := by have := HFL.out; omega
      have hcell := rdi_cell (HF.out.below bel rfl) k hkf
      have lA := World.block_lt_of_cell? _ _ hcell
      have hsu := cost1_succ first k hkf
      have kc := hC.cell k
      rw [icellsA_get _ _ (by rw [cost1_len _ _ (by have := HFL.out; omega)]; exact hkf)] at kc
      have kf := hC.froz
      have i0 : (0 : Int) ≤ ↑k := by omega
      have i1 : (↑k : Int) < ↑n := by omega
      have h1 := hC.put k (.int .i64 NONE)
      rw [icellsA_set] at h1
      generalize first[k] = x at *
      by_cases hx : x = 1000000001
      · have hx2 : (x != 1000000001) = false := by simp [hx]
        rw [if_pos hx] at hsu
        rw [← hsu] at h1
        have H1 := Lib.hid h1
        clear hC hsz hsu h1 hx
        go_wp2_with fail
        go_roundw
        case rel => exact ⟨k + 1, by omega, by go_num, H1.out, bel.setCell (by simp) _, by simp [World.setCell]; exact HSZ.out⟩
        case measure => simp [intOf]; omega
      · have hx2 : (x != 1000000001) = true := by simpa using hx
        rw [if_neg hx] at hsu
        have h2 := h1.put k (.int .i64 x)
        rw [icellsA_set, List.set_set, ← hsu] at h2
        have H2 := Lib.hid h2
        clear hC hsz hsu h1 h2 hx
        go_wp2_with fail
        go_roundw
        case rel => exact ⟨k + 1, by omega, by go_num, H2.out, (bel.setCell (by simp) _).setCell (by simp) _, by simp [World.setCell]; exact HSZ.out⟩
        case measure => simp [intOf]; omega
    · obtain rfl : n = k := by omega
      rw [← HFL.out, C1A.out] at hC
      have hmk := run_make_elt eltBool' ((wr.alloc (.cells #[.slice none 0 0] 29))) n (by omega) (by omega) (by omega)
      simp only [Value.cells, Nat.mul_one, madeBools'] at hmk
      go_wp2_with fail
      have F0 : FW w (((wr.alloc (.cells #[.slice none 0 0] 29)).alloc (.cells (bcells (List.replicate n false)) 4)).alloc (.cells #[.slice (some ⟨w.heap.size + 1 + 1, 0, none⟩) n n] 245)) n (start0 first 0) (.slice none 0 0) :=
        ⟨by simp [start0, HFL.out], by rw [start0_cost]; simp [cost0, HFL.out], by rw [start0_cost]; exact ((hC.alloc _).alloc _).alloc _, ((Blk.new' (by simp [hsz])).alloc _).alloc _, by
          have e : bcells (start0 first 0).wait = bcells (List.replicate n false) := by simp only [start0, List.range_zero, List.foldl_nil, HFL.out]
          rw [e]; exact (Blk.new' (by simp [hsz])).alloc _, Blk.new' (by simp [hsz]), OwnsQ.nil _ _ _, ((bel.alloc bel.size _).alloc (by simp; omega) _).alloc (by simp; omega) _⟩
      generalize (((wr.alloc (.cells #[.slice none 0 0] 29)).alloc (.cells (bcells (List.replicate n false)) 4)).alloc (.cells #[.slice (some ⟨w.heap.size + 1 + 1, 0, none⟩) n n] 245)) = w2 at *
      clear hmk hsz hC HC HSZ SZ P0 B0 bel hlt
      go_loopw [45] (fun i wr => ∃ (k : Nat) (tv : Value), k ≤ n ∧ i = .int .i64 k ∧ FW w wr n (start0 first k) tv) (fun i _ => n - (intOf i).toNat)
      case atStart => exact ⟨0, _, by omega, rfl, F0⟩
      case round =>
        obtain ⟨k, tv, hk, rfl, hF⟩ := hrel
        have HFW := Lib.hid hF
        by_cases hlt : k < n
        · have hst := start0_inv first k (by have := HFL.out; omega)
          have htl : (start0 first k).todo.length ≤ 1000 := by
            have := nodup_lt_len n _ hst.2.1 (fun q hq => by have := (hst.2.2.2.1 q hq).1; omega)
            omega
          have hsu := start0_succ first k
          have kc := hF.cb.cell k
          rw [icellsA_get _ _ (by rw [hF.cl]; exact hlt)] at kc
          have l1 := hF.cb.lt
          have i0 : (0 : Int) ≤ ↑k := by omega
          have i1 : (↑k : Int) < ↑n := by omega
          generalize start0 first k = s at *
          generalize s.cost.getD k 0 = x at *
          have HSU := Lib.hid hsu
          clear hF hst hsu
          by_cases hx : x = NONE
          · have hx2 : (x != 1152921504606846976) = false := by rw [← NONE_eq]; simp [hx]
            have E1 := Lib.hid (show start0 first (k + 1) = s by rw [HSU.out, if_pos hx])
            clear hx
            go_wp2_with fail
            go_roundw
            case rel => exact ⟨k + 1, tv, by omega, by go_num, by rw [E1.out]; exact HFW.out⟩
            case measure => simp [intOf]; omega
          · have hx2 : (x != 1152921504606846976) = true := by rw [← NONE_eq]; simpa using hx
            have E1 := Lib.hid (show start0 first (k + 1) = s.put k by rw [HSU.out, if_neg hx])
            clear hx
            go_wp2_with fail
            refine (put_any w _ n s tv HFW.out k hlt (by omega) htl).mono ?_
            rintro e w3 ⟨rfl, tv3, hF3⟩
            have HF3 := Lib.hid hF3
            clear hF3
            go_wp2_with fail
            go_roundw
            case rel => exact ⟨k + 1, tv3, by omega, by go_num, by rw [E1.out]; exact HF3.out⟩
            case measure => simp [intOf]; omega
        · obtain rfl : n = k := by omega
          have HI := Lib.hid (start0_FInv HO.out)
          clear hF F0 l1 hlt
          go_wp2_with fail
          go_loopg [] ((start0 first n).pot) (fun g wx => ∃ (s : FSt) (tv : Value) (q0 : Nat), s.pot = g ∧ FW w wx n s tv ∧ FInv n first E s q0 [])
          case atStart => exact ⟨_, _, _, rfl, HFW.out, HI.out⟩
          case round =>
            obtain ⟨⟨cost, wait, todo⟩, tv, q0, hg, hF, hI⟩ := hrel
            have HFW2 := Lib.hid hF
            have HI2 := Lib.hid hI
            have k1 := hF.tb.cell; have k2 := hF.xb.cell; have k3 := hF.tb.froz; have k4 := hF.wb.froz
            have l1 := hF.tb.lt; have l2 := hF.xb.lt; have l3 := hF.wb.lt
            have bd := hI.todo_len
            simp only at bd
            rcases todo with _ | ⟨q, t⟩
            · obtain ⟨A3, c3, rfl, -, -, -⟩ := hF.own.form
              have hcl := hI.cl
              simp only at hcl
              have hdn := fun q (hq : q < n) => FInv.done HO.out hI rfl HS.out hq
              simp only at hdn
              have HDN := Lib.hid hdn
              have P5 : Blk wr w.heap.size (icellsA (fin1 cost 0)) 3 := by rw [fin1_zero]; exact hF.cb
              have B5 := hF.bel
              have FA := Lib.hid (fin1_all cost)
              have HCL := Lib.hid hcl
              clear hF hI hg hdn hcl
              go_wp2_with fail
              clear k1 k2 k3 k4 l1 l2 l3
              go_loopw [103] (fun i wx => ∃ k : Nat, k ≤ n ∧ i = .int .i64 k ∧ Blk wx w.heap.size (icellsA (fin1 cost k)) 3 ∧ Below w.heap.size w wx) (fun i _ => n - (intOf i).toNat)
              case atStart => exact ⟨0, by omega, rfl, P5, B5⟩
              case round =>
                obtain ⟨k, hk, rfl, hC, bel⟩ := hrel
                by_cases hlt : k < n
                · have kc := hC.cell k
                  rw [icellsA_get _ _ (by rw [fin1_len, HCL.out]; exact hlt), fin1_get _ _ (by rw [HCL.out]; exact hlt)] at kc
                  have kf := hC.froz; have l1 := hC.lt
                  have i0 : (0 : Int) ≤ ↑k := by omega
                  have i1 : (↑k : Int) < ↑n := by omega
                  have hdk := HDN.out k hlt
                  rw [getD_int (by rw [HCL.out]; exact hlt)] at hdk
                  have hsu := fin1_succ cost k (by rw [HCL.out]; exact hlt)
                  have hsm := set_same (fin1 cost k) k (by rw [fin1_len, HCL.out]; exact hlt)
                  rw [fin1_get _ _ (by rw [HCL.out]; exact hlt)] at hsm
                  have h1 := hC.put k (.int .i64 1000000001)
                  rw [icellsA_set] at h1
                  generalize cost[k]'(by rw [HCL.out]; exact hlt) = x at *
                  by_cases hx : x = NONE
                  · have hx2 : (x == 1152921504606846976) = true := by rw [← NONE_eq]; simp [hx]
                    have hfx : finc x = 1000000001 := by unfold finc; rw [if_pos hx]
                    rw [hfx] at hsu
                    rw [← hsu] at h1
                    have H1 := Lib.hid h1
                    clear hC hsu hsm h1 hx hdk hfx
                    go_wp2_with fail
                    go_roundw
                    case rel => exact ⟨k + 1, by omega, by go_num, H1.out, bel.setCell (by simp) _⟩
                    case measure => simp [intOf]; omega
                  · have hx2 : (x == 1152921504606846976) = false := by rw [← NONE_eq]; simpa using hx
                    have hfx : finc x = x := by unfold finc; rw [if_neg hx]
                    have hxb : x ≤ 1000000000 := by
                      rcases hdk with h | h
                      · exact absurd h.1 hx
                      · exact h.2.1
                    rw [hfx, hsm] at hsu
                    have H1 := Lib.hid (show Blk wr w.heap.size (icellsA (fin1 cost (k + 1))) 3 by rw [hsu]; exact hC)
                    clear hC hsu hsm h1 hx hdk hfx
                    go_wp2_with fail
                    go_roundw
                    case rel => exact ⟨k + 1, by omega, by go_num, H1.out, bel⟩
                    case measure => simp [intOf]; omega
                · obtain rfl : n = k := by omega
                  rw [← HCL.out, FA.out] at hC
                  have H1 := Lib.hid hC
                  clear hC
                  go_wp2_with fail
                  go_ret2
                  refine ⟨_, rfl, H1.out, by simpa using HCL.out, fun q hq => ?_, bel⟩
                  have hdk := HDN.out q hq
                  rw [getD_int (by simpa using by rw [HCL.out]; exact hq), List.getElem_map]
                  rw [getD_int (by rw [HCL.out]; exact hq)] at hdk
                  rcases hdk with h | h
                  · left
                    exact ⟨by unfold finc; rw [if_pos h.1], h.2⟩
                  · right
                    have hne : cost[q]'(by rw [HCL.out]; exact hq) ≠ NONE := by have := none_gt; omega
                    have hf : finc (cost[q]'(by rw [HCL.out]; exact hq)) = cost[q]'(by rw [HCL.out]; exact hq) := by unfold finc; rw [if_neg hne]
                    rw [hf]; exact h
            · have hqn := hI.todo_lt q (by simp)
              have hown := hF.own
              obtain ⟨g, o, c3, rfl, h1, h2, h3, h4⟩ := OwnsQ.addr (n := t.length) hown
              have HOWN := Lib.hid hown
              have hcell : wr.cell? ⟨g, o, none⟩ = some (.int .i64 q) := by
                obtain ⟨A5, c5, e5, -, -, r5⟩ := hown.form
                simp at e5
                obtain ⟨rfl, rfl⟩ := e5
                have := r5.cell 0 (by simp [ncells])
                simpa [ncells, blk_some, ofs_some] using this
              have HG := Lib.hid hg
              simp only [List.length_cons] at bd
              have k5 := hF.wb.cell q
              rw [bcells_get _ _ (by rw [hF.wl]; exact hqn)] at k5
              simp only at k5
              obtain ⟨A2, c2, hsl, hq2⟩ := queue_tail (n := t.length) hown
              have hE2 := HE.out.below hF.bel (Nat.le_refl _)
              obtain ⟨AR, cR, hrow, -⟩ := hE2.row q (by rw [HELN.out]; exact hqn)
              obtain ⟨AR', cR', hrow', hER⟩ := HE.out.row q (by rw [HELN.out]; exact hqn)
              have hrow2 := cell_keep hF.bel (Nat.le_refl _) hrow'
              rw [hrow] at hrow2
              obtain ⟨rfl, rfl⟩ : AR = AR' ∧ cR = cR' := by simpa using hrow2
              have lE := World.block_lt_of_cell? _ _ hrow'
              have lE2 := World.block_lt_of_cell? _ _ hrow
              have HQ2 := Lib.hid hq2
              clear hF hI hown hg hq2 hE2 hrow' hrow2
              generalize hm : t.length = m at *
              have HM := Lib.hid hm; clear hm
              simp only [maxLen] at h2
              have i0 : (0 : Int) ≤ ↑q := by omega
              have i1 : (↑q : Int) < ↑n := by omega
              go_wp2_with fail
              have F1 := FW.pop HFW2.out HM.out HQ2.out
              have hgl : E.getD q [] = E[q]'(by rw [HELN.out]; exact hqn) := by simp [List.getD_eq_getElem?_getD, show q < E.length by rw [HELN.out]; exact hqn]
              have I1 := FInv.pop HI2.out rfl
              rw [hgl] at I1
              have HN : Hid ((FSt.pop ⟨cost, wait, q :: t⟩ q t).cost.getD q 0 ≠ NONE) := Lib.hid (by
                have := HI2.out.had q (by rw [HI2.out.cl]; exact hqn) (by simp)
                simp only [FSt.pop]
                rw [getD_int (by have := HI2.out.cl; simp only at this; omega)]; exact this)
              have HP : Hid ((FSt.pop ⟨cost, wait, q :: t⟩ q t).pot + 1 ≤ gk) := Lib.hid (by
                rw [← HG.out]; unfold FSt.pot FSt.pop; simp only [List.length_cons]; omega)
              have HLE : Hid (∀ e ∈ E[q]'(by rw [HELN.out]; exact hqn), e ∈ E.getD q []) := Lib.hid (fun e he => by rw [hgl]; exact he)
              have hll := HEL.out _ (List.getElem_mem (show q < E.length by rw [HELN.out]; exact hqn))
              have rdR := hER.rdy
              have HER := Lib.hid hER
              have HI1 := Lib.hid I1; have HF1 := Lib.hid F1
              clear hgl I1 F1 hER k1 k2 k3 k4 k5 hcell hsl hrow HFW2 HI2 HQ2 HOWN h4 l1 l2 l3
              generalize (wr.setCell ⟨w.heap.size + 1, 0, none⟩ (.slice A2 m c2)).setCell ⟨w.heap.size + 2, q, none⟩ (.bool false) = w4 at *
              generalize FSt.pop ⟨cost, wait, q :: t⟩ q t = s0 at *
              generalize E[q]'(by rw [HELN.out]; exact hqn) = l at *
              go_loopw [73] (fun i wx => ∃ (k : Nat) (tv : Value) (s : FSt), k ≤ l.length ∧ i = .int .i64 k ∧ FW w wx n s tv ∧ FInv n first E s q (l.drop k) ∧ s.cost.getD q 0 ≠ NONE ∧ s.pot + 1 ≤ gk) (fun i _ => l.length - (intOf i).toNat)
              case atStart => exact ⟨0, _, s0, by omega, rfl, HF1.out, HI1.out, HN.out, HP.out⟩
              case round =>
                obtain ⟨k, tv, s, hk, rfl, hF, hI, hnn, hpt⟩ := hrel
                by_cases hlt : k < l.length
                · have hdr : l.drop k = l[k] :: l.drop (k + 1) := List.drop_eq_getElem_cons hlt
                  rw [hdr] at hI
                  have hmem := HLE.out _ (List.getElem_mem hlt)
                  have hed := HO.out.edge (p := l[k].1) (w := l[k].2) hmem
                  have hRX := FInv.relax HO.out hI hqn hnn hmem
                  have hPX := FSt.relax_pot (s := s) (q := q) (e := l[k]) (by have := hI.cl; omega) (by have := (hI.cost_b q hqn).1; omega)
                  have hERr := HER.out.below hF.bel (Nat.le_refl _)
                  have f0 := hERr.c0 k hlt; have f1 := hERr.c1 k hlt
                  have lR := World.block_lt_of_cell? _ _ f0
                  have bq := hI.cost_b q hqn
                  have bp := hI.cost_b _ hed.2.1
                  have htl := hI.todo_len
                  have kq := hF.cb.cell q
                  rw [icellsA_get _ _ (by rw [hF.cl]; exact hqn)] at kq
                  have kp := hF.cb.cell l[k].1
                  rw [icellsA_get _ _ (by rw [hF.cl]; exact hed.2.1)] at kp
                  have kf := hF.cb.froz; have l1 := hF.cb.lt
                  have hrx : s.relax q l[k] = if s.cost.getD q 0 + l[k].2 < s.cost.getD l[k].1 0 then FSt.put { s with cost := s.cost.set l[k].1 (s.cost.getD q 0 + l[k].2) } l[k].1 else s := rfl
                  generalize s.relax q l[k] = s' at *
                  generalize l[k] = e at *
                  obtain ⟨p, v⟩ := e
                  simp only at hed f0 f1 bp kp hrx
                  obtain ⟨-, hpn, hv0, hv1⟩ := hed
                  have HRX := Lib.hid hrx
                  have HFS := Lib.hid hF; have HR := Lib.hid hRX; have HPX := Lib.hid hPX; have HPT := Lib.hid hpt; have HNN := Lib.hid hnn
                  clear hdr hI hmem hRX hPX hERr hF hrx hpt hnn
                  generalize hx : s.cost.getD q 0 = x at *
                  generalize hy : s.cost.getD p 0 = y at *
                  have HX := Lib.hid hx
                  clear hx hy
                  rw [NONE_eq] at bq bp
                  have j0 : (0 : Int) ≤ ↑k := by omega
                  have j1 : (↑k : Int) < ↑l.length := by omega
                  have p0 : (0 : Int) ≤ ↑p := by omega
                  have p1 : (↑p : Int) < ↑n := by omega
                  obtain ⟨bq0, bq1⟩ := bq
                  obtain ⟨bp0, bp1⟩ := bp
                  have hwr : IntKind.i64.wrap (x + v) = x + v := IntWalk.i64_in _ (by omega)
                  go_wp2_with fail
                  go_quiet (fail)
                  have F2 := Lib.hid ((HFS.out.keep ((Below.refl _ _).alloc (Nat.le_refl _) (.cells #[.int .i64 p, .int .i64 v] 196))).keep (below_drewN _ nq))
                  have hl5 : w.heap.size < (wr.alloc (.cells #[.int .i64 p, .int .i64 v] 196)).heap.size := by simp; omega
                  by_cases hlt2 : x + v < y
                  · have HXE := Lib.hid (show s' = FSt.put { s with cost := s.cost.set p (x + v) } p by rw [HRX.out, if_pos hlt2])
                    go_wp2_with fail
                    refine (put_any w _ n _ tv (F2.out.setCost p (x + v)) p hpn (by omega) (by simp only; omega)).mono ?_
                    rintro e w5 ⟨rfl, tv5, hF5⟩
                    have HF5 := Lib.hid hF5
                    clear hF5
                    go_wp2_with fail
                    go_roundw
                    case rel => exact ⟨k + 1, tv5, s', by omega, by go_num, by rw [HXE.out]; exact HF5.out, HR.out.1, by rw [HR.out.2]; exact HNN.out, by have := HPX.out; have := HPT.out; omega⟩
                    case measure => simp [intOf]; omega
                  · have HXE := Lib.hid (show s' = s by rw [HRX.out, if_neg hlt2])
                    go_wp2_with fail
                    go_roundw
                    case rel => exact ⟨k + 1, tv, s', by omega, by go_num, by rw [HXE.out]; exact F2.out, HR.out.1, by rw [HR.out.2]; exact HNN.out, by have := HPX.out; have := HPT.out; omega⟩
                    case measure => simp [intOf]; omega
                · obtain rfl : k = l.length := by omega
                  rw [List.drop_length] at hI
                  have HFS := Lib.hid hF; have HI3 := Lib.hid hI
                  clear hF hI hnn
                  go_wp2_with fail
                  go_roundg (s.pot)
                  case measure => omega
                  case rel => exact ⟨s, tv, q, rfl, HFS.out, HI3.out⟩
end Go.Proofs.YtkmnacchiagipaaDoor
