/- paper (plain): the text of a machine. -/
import Derived.Test.YtkmnacchiagipaaDoorWeightText
import Derived.Test.YtkmnacchiagipaaDoorCheck
import Derived.Lib.SmallJoins
import Derived.Lib.Join
namespace Go.Proofs.YtkmnacchiagipaaDoor
open Go.RowKit

def lineL (xs : List (List UInt8)) : List UInt8 := Lib.join xs [32] ++ [10]
def wStart : List UInt8 := [115, 116, 97, 114, 116]
def wState : List UInt8 := [115, 116, 97, 116, 101]
def wArc : List UInt8 := [97, 114, 99]
def startL (n : Int) : List UInt8 := if n < 0 then [45] else Lib.decDigits n.toNat

def arcT (a : ArcL) : List UInt8 := lineL [wArc, Lib.decDigits a.to.toNat, Lib.decDigits a.inn.toNat, Lib.decDigits a.out.toNat, Lib.decDigits a.wt.toNat]
def stateT (s : StateL) : List UInt8 := lineL [wState, showL s.final] ++ s.arcs.flatMap arcT
def machT (m : MachL) : List UInt8 := lineL [wStart, startL m.start] ++ m.states.flatMap stateT

theorem machT_ne (m : MachL) : machT m ≠ [] := by
  unfold machT lineL; simp
theorem dec_10 {n : Int} (h : n ≤ 1000000000) : (Lib.decDigits n.toNat).length ≤ 10 := dec_len (k := 9) (by omega)
theorem showL_10 {n : Int} (h : ValidFinal n) : (showL n).length ≤ 10 := by
  unfold showL ValidFinal at *
  split
  · decide
  · exact dec_10 (by omega)
theorem lineL2 (a b : List UInt8) : (lineL [a, b]).length = a.length + b.length + 2 := by simp [lineL, Lib.join]; omega
theorem dec_le {n : Int} (k : Nat) (h : n < 10 ^ (k + 1)) : (Lib.decDigits n.toNat).length ≤ k + 1 := dec_len (k := k) (by
  have h2 : ((10 ^ (k + 1) : Nat) : Int) = 10 ^ (k + 1) := by norm_cast
  have h3 : 0 < 10 ^ (k + 1) := Nat.pos_of_ne_zero (by simp)
  omega)
theorem arcT_len {n : Int} {a : ArcL} (h : ValidArc n a) (hn : n ≤ 60) : (arcT a).length ≤ 30 := by
  have h1 := dec_le (n := a.to) 1 (by have := h.t1; omega)
  have h2 := dec_le (n := a.inn) 3 (by have := h.i1; omega)
  have h3 := dec_le (n := a.out) 3 (by have := h.o1; omega)
  have h4 := dec_10 h.w1
  unfold arcT lineL
  simp [Lib.join, wArc]
  omega
theorem sum_le {α : Type} (f : α → List UInt8) (B : Nat) : ∀ l : List α, (∀ a ∈ l, (f a).length ≤ B) → (l.flatMap f).length ≤ B * l.length
  | [], _ => by simp
  | a :: l, h => by
    have h1 := h a (by simp)
    have h2 := sum_le f B l fun x hx => h x (by simp [hx])
    simp only [List.flatMap_cons, List.length_append, List.length_cons, Nat.mul_succ]
    omega
/-! ### the text so far -/
def textQ (m : MachL) (q : Nat) : List UInt8 := lineL [wStart, startL m.start] ++ (m.states.take q).flatMap stateT
theorem textQ_zero (m : MachL) : textQ m 0 = lineL [wStart, startL m.start] := by simp [textQ]
theorem textQ_all (m : MachL) : textQ m m.states.length = machT m := by simp [textQ, machT]
def textI (m : MachL) (q : Nat) (s : StateL) (t : Nat) : List UInt8 := textQ m q ++ (lineL [wState, showL s.final] ++ (s.arcs.take t).flatMap arcT)
theorem textI_zero (m : MachL) (q : Nat) (s : StateL) : textI m q s 0 = textQ m q ++ lineL [wState, showL s.final] := by simp [textI]
theorem textI_succ (m : MachL) (q : Nat) (s : StateL) (t : Nat) (h : t < s.arcs.length) : textI m q s (t + 1) = textI m q s t ++ arcT s.arcs[t] := by
  unfold textI; rw [List.take_succ_eq_append_getElem h]; simp only [List.flatMap_append, List.flatMap_cons, List.flatMap_nil, List.append_nil, List.append_assoc]
theorem textI_all (m : MachL) (q : Nat) (h : q < m.states.length) : textI m q m.states[q] m.states[q].arcs.length = textQ m (q + 1) := by
  unfold textI textQ; rw [List.take_succ_eq_append_getElem h]; simp only [List.flatMap_append, List.flatMap_cons, List.flatMap_nil, List.append_nil, List.append_assoc, stateT, List.take_length]
theorem startL_10 {n : Int} (h : n ≤ 60) : (startL n).length ≤ 10 := by
  unfold startL
  split
  · decide
  · exact dec_10 (by omega)
theorem line0_len {m : MachL} (hv : Valid m) : (lineL [wStart, startL m.start]).length ≤ 20 := by
  have h1 := startL_10 (n := m.start) (by have := hv.s1; have := hv.size; omega)
  rw [lineL2]; simp [wStart]; omega
theorem lineS_len {n : Int} (h : ValidFinal n) : (lineL [wState, showL n]).length ≤ 20 := by
  have h1 := showL_10 h
  rw [lineL2]; simp [wState]; omega
theorem arcs_take_le (ss : List StateL) (q : Nat) : arcsOf (ss.take q) ≤ arcsOf ss := by
  unfold arcsOf
  induction ss generalizing q with
  | nil => simp
  | cons s ss ih =>
    cases q with
    | zero => simp
    | succ q => have := ih q; simp only [List.take_succ_cons, List.map_cons, List.sum_cons]; omega
theorem states_len {n : Int} (hn : n ≤ 60) : ∀ ss : List StateL, (∀ s ∈ ss, ValidFinal s.final ∧ ∀ a ∈ s.arcs, ValidArc n a) → (ss.flatMap stateT).length ≤ 20 * ss.length + 30 * arcsOf ss
  | [], _ => by simp [arcsOf]
  | s :: ss, h => by
    have h1 := states_len hn ss fun x hx => h x (by simp [hx])
    have h2 := h s (by simp)
    have h3 := lineS_len h2.1
    have h4 := sum_le arcT 30 s.arcs fun a ha => arcT_len (h2.2 a ha) hn
    unfold arcsOf at *
    simp only [List.flatMap_cons, List.length_append, List.length_cons, List.map_cons, List.sum_cons, stateT] at *
    omega
theorem textQ_len {m : MachL} (hv : Valid m) (q : Nat) (hq : q ≤ m.states.length) : (textQ m q).length ≤ 20000 := by
  have h1 := line0_len hv
  have h2 := states_len (n := m.states.length) (by have := hv.size; omega) (m.states.take q) fun s hs => hv.st s (List.mem_of_mem_take hs)
  have h3 := arcs_take_le m.states q
  have h4 := hv.arcs
  have h5 := hv.size
  rw [List.length_take] at h2
  unfold textQ
  rw [List.length_append]
  omega
theorem mem_sum_le : ∀ (l : List Nat) (n : Nat), n ∈ l → n ≤ l.sum
  | a :: l, n, h => by
    rw [List.sum_cons]
    rcases List.mem_cons.1 h with rfl | h
    · omega
    · have := mem_sum_le l n h; omega
theorem textI_len {m : MachL} (hv : Valid m) (q : Nat) (hq : q < m.states.length) (t : Nat) (ht : t ≤ m.states[q].arcs.length) : (textI m q m.states[q] t).length ≤ 50000 := by
  have h1 := textQ_len hv q (by omega)
  have hs := hv.st _ (List.getElem_mem hq)
  have h2 := lineS_len hs.1
  have h3 := sum_le arcT 30 (m.states[q].arcs.take t) fun a ha => arcT_len (hs.2 a (List.mem_of_mem_take ha)) (by have := hv.size; omega)
  have h4 : m.states[q].arcs.length ≤ 400 := by
    have h5 := hv.arcs
    have : m.states[q].arcs.length ≤ arcsOf m.states := by
      unfold arcsOf
      exact mem_sum_le _ _ (List.mem_map.2 ⟨_, List.getElem_mem hq, rfl⟩)
    omega
  rw [List.length_take] at h3
  unfold textI
  rw [List.length_append, List.length_append]
  omega
end Go.Proofs.YtkmnacchiagipaaDoor
