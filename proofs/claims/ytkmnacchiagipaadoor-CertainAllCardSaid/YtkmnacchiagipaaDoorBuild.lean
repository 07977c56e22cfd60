/- Builders: a machine's box and a state's box whose rows grow in a loop. -/
/- A machine in a variable's box. -/
import Derived.Test.YtkmnacchiagipaaDoorMem
import Derived.Test.YtkmnacchiagipaaDoorSlices
namespace Go.Proofs.YtkmnacchiagipaaDoor
open Go.RowKit

theorem cellB {w w' : World} (hb : Below w.heap.size w w') {b o : Nat} {v : Value} (h : w.cell? ⟨b, o, none⟩ = some v) : w'.cell? ⟨b, o, none⟩ = some v := cell_keep hb (Nat.le_refl _) h
theorem frozB {w w' : World} (hb : Below w.heap.size w w') {b o : Nat} {v : Value} (h : w.cell? ⟨b, o, none⟩ = some v) (hf : w.frozen? ⟨b, o, none⟩ = false) : w'.frozen? ⟨b, o, none⟩ = false := by
  rw [hb.frozen (p := ⟨b, o, none⟩) (World.block_lt_of_cell? _ _ h)]; exact hf
theorem grown_cell {w w' : World} {g : Nat} (hg : w.grownBy w' (some g)) {b o : Nat} (hb : b ≠ g) {v : Value} (h : w.cell? ⟨b, o, none⟩ = some v) : w'.cell? ⟨b, o, none⟩ = some v := hg.cell h (by simpa using hb)
theorem grown_froz {w w' : World} {g : Nat} (hg : w.grownBy w' (some g)) {b o : Nat} (hb : b ≠ g) {v : Value} (h : w.cell? ⟨b, o, none⟩ = some v) (hf : w.frozen? ⟨b, o, none⟩ = false) : w'.frozen? ⟨b, o, none⟩ = false := by
  rw [World.frozen?_of_block (hg.block b (World.block_lt_of_cell? _ _ h) (by simpa using hb))]; exact hf
theorem grown_of_below {w w' : World} (hb : Below w.heap.size w w') (row : Option Nat) : w.grownBy w' row := ⟨hb.os, hb.tape, hb.output, hb.size, fun k hk _ => hb.block k hk⟩
theorem grown_then {a b c : World} {g : Nat} (h : a.grownBy b (some g)) (k : b.grownBy c (some g)) : a.grownBy c (some g) :=
  ⟨k.os.trans h.os, k.tape.trans h.tape, k.output.trans h.output, Nat.le_trans h.size k.size, fun i hi hne => (k.block i (Nat.lt_of_lt_of_le hi h.size) hne).trans (h.block i hi hne)⟩
theorem below_of_grown {a b c : World} {B g : Nat} (h : Below B a b) (k : b.grownBy c (some g)) (hB : B ≤ b.heap.size) (hg : B ≤ g) : Below B a c :=
  h.grown k hB (fun j hj => by simp at hj; omega)

/-- a machine's box at g, whose row of states is the call's own (from w1's end on) -/
structure MB (w1 wr : World) (g : Nat) (st : Int) (sv : Value) (vs : List Value) (ss : List StateL) : Prop where
  own : OwnStV wr w1.heap.size sv vs ss
  m0 : wr.cell? ⟨g, 0, none⟩ = some (.int .i64 st)
  m1 : wr.cell? ⟨g, 1, none⟩ = some sv
  f0 : wr.frozen? ⟨g, 0, none⟩ = false
  f1 : wr.frozen? ⟨g, 1, none⟩ = false
  grown : w1.grownBy wr (some g)
  gB : g < w1.heap.size

theorem MB.lt {w1 wr : World} {g : Nat} {st : Int} {sv : Value} {vs : List Value} {ss : List StateL} (h : MB w1 wr g st sv vs ss) : g < wr.heap.size := Nat.lt_of_lt_of_le h.gB h.grown.size
theorem MB.start {w1 : World} {g : Nat} {st : Int} (m0 : w1.cell? ⟨g, 0, none⟩ = some (.int .i64 st)) (m1 : w1.cell? ⟨g, 1, none⟩ = some (.slice none 0 0)) (f0 : w1.frozen? ⟨g, 0, none⟩ = false) (f1 : w1.frozen? ⟨g, 1, none⟩ = false) :
    MB w1 w1 g st (.slice none 0 0) [] [] := ⟨OwnStV.nil _ _, m0, m1, f0, f1, World.grownBy.refl _ _, World.block_lt_of_cell? _ _ m0⟩
theorem MB.keep {w1 wr wx : World} {g : Nat} {st : Int} {sv : Value} {vs : List Value} {ss : List StateL} (h : MB w1 wr g st sv vs ss) (hb : Below wr.heap.size wr wx) : MB w1 wx g st sv vs ss :=
  ⟨h.own.below hb (Nat.le_refl _), cellB hb h.m0, cellB hb h.m1, frozB hb h.m0 h.f0, frozB hb h.m1 h.f1, grown_then h.grown (grown_of_below hb _), h.gB⟩
theorem MB.far {w1 wr w' : World} {g : Nat} {st : Int} {sv : Value} {vs : List Value} {ss : List StateL} (h : MB w1 wr g st sv vs ss) (hg : wr.grownBy w' sv.ownBlock) :
    w'.cell? ⟨g, 1, none⟩ = some sv ∧ w'.frozen? ⟨g, 1, none⟩ = false ∧ g < w'.heap.size := by
  have hb : w'.heap[g]? = wr.heap[g]? := hg.block _ h.lt (fun e => own_base h.own.row h.gB e.symm)
  exact ⟨by rw [World.cell?_of_block hb]; exact h.m1, by rw [World.frozen?_of_block hb]; exact h.f1, Nat.lt_of_lt_of_le h.lt hg.size⟩
theorem MB.app {w1 wr w' : World} {g0 : Nat} {st : Int} {sv : Value} {vs : List Value} {ss : List StateL} (h : MB w1 wr g0 st sv vs ss) (s : StateL) {av : Value} (ha : OwnArcs wr w1.heap.size av s.arcs)
    {v' : Value} {k : Nat} (hk : k = ss.length + 1) (hg : wr.grownBy w' sv.ownBlock) (hx : w'.ownsRow w1.heap.size 76 2 v' k (statesCells ((ss.map (·.final)).zip vs) ++ [.int .i64 s.final, av])) :
    MB w1 (w'.setCell ⟨g0, 1, none⟩ v') g0 st v' (vs ++ [av]) (ss ++ [s]) := by
  have ho : OwnStV w' w1.heap.size v' (vs ++ [av]) (ss ++ [s]) := h.own.app s ha hg hk hx
  have hne : ∀ j, j < w1.heap.size → some j ≠ sv.ownBlock := fun j hj e => own_base h.own.row hj e.symm
  have hblk : ∀ j, j < w1.heap.size → w'.heap[j]? = wr.heap[j]? := fun j hj => hg.block j (Nat.lt_of_lt_of_le hj h.grown.size) (hne j hj)
  have hgb := h.gB
  refine ⟨ho.setCell (a := ⟨g0, 1, none⟩) hgb _, ?_, ?_, ?_, ?_, ?_, hgb⟩
  · rw [World.cell?_setCell_other _ _ _ _ (by intro e; injection e with e1 e2; omega), World.cell?_of_block (hblk _ hgb)]; exact h.m0
  · exact World.cell?_setCell_same _ _ _ (u := sv) (by rw [World.cell?_of_block (hblk _ hgb)]; exact h.m1)
  · rw [World.frozen?_setCell, World.frozen?_of_block (hblk _ hgb)]; exact h.f0
  · rw [World.frozen?_setCell, World.frozen?_of_block (hblk _ hgb)]; exact h.f1
  · refine ⟨hg.os.trans h.grown.os, hg.tape.trans h.grown.tape, hg.output.trans h.grown.output, ?_, fun j hj hne' => ?_⟩
    · have := hg.size; have := h.grown.size; simp [World.setCell]; omega
    · rw [Below.heap_setCell _ _ _ _ (by simpa using hne'), hblk j hj]; exact h.grown.block j hj hne'
theorem MB.below {w w1 wr : World} {g : Nat} {st : Int} {sv : Value} {vs : List Value} {ss : List StateL} (h : MB w1 wr g st sv vs ss) (hb : Below w.heap.size w w1) (hg : w.heap.size ≤ g) : Below w.heap.size w wr :=
  below_of_grown hb h.grown hb.size hg
theorem MB.form {w1 wr : World} {g : Nat} {st : Int} {sv : Value} {vs : List Value} {ss : List StateL} (h : MB w1 wr g st sv vs ss) : ∃ A c, sv = .slice A ss.length c ∧ ss.length ≤ c ∧ c ≤ maxLen := own_form h.own.row

/-- a state's box at b, whose row of arcs is the call's own (from w2's end on) -/
structure AB (w2 wi : World) (b : Nat) (fin : Int) (av : Value) (l : List ArcL) : Prop where
  own : OwnArcs wi w2.heap.size av l
  s0 : wi.cell? ⟨b, 0, none⟩ = some (.int .i64 fin)
  s1 : wi.cell? ⟨b, 1, none⟩ = some av
  f0 : wi.frozen? ⟨b, 0, none⟩ = false
  f1 : wi.frozen? ⟨b, 1, none⟩ = false
  grown : w2.grownBy wi (some b)
  gB : b < w2.heap.size

section
variable {w2 wi wx w' : World} {b : Nat} {fin : Int} {av : Value} {l : List ArcL}
theorem AB.lt (h : AB w2 wi b fin av l) : b < wi.heap.size := Nat.lt_of_lt_of_le h.gB h.grown.size
theorem AB.start (s0 : w2.cell? ⟨b, 0, none⟩ = some (.int .i64 fin)) (s1 : w2.cell? ⟨b, 1, none⟩ = some (.slice none 0 0)) (f0 : w2.frozen? ⟨b, 0, none⟩ = false) (f1 : w2.frozen? ⟨b, 1, none⟩ = false) : AB w2 w2 b fin (.slice none 0 0) [] :=
  ⟨OwnArcs.nil _ _, s0, s1, f0, f1, World.grownBy.refl _ _, World.block_lt_of_cell? _ _ s0⟩
theorem AB.keep (h : AB w2 wi b fin av l) (hb : Below wi.heap.size wi wx) : AB w2 wx b fin av l :=
  ⟨h.own.below hb (Nat.le_refl _), cellB hb h.s0, cellB hb h.s1, frozB hb h.s0 h.f0, frozB hb h.s1 h.f1, grown_then h.grown (grown_of_below hb _), h.gB⟩
theorem AB.far (h : AB w2 wi b fin av l) (hg : wi.grownBy w' av.ownBlock) : w'.cell? ⟨b, 1, none⟩ = some av ∧ w'.frozen? ⟨b, 1, none⟩ = false ∧ b < w'.heap.size := by
  have hb : w'.heap[b]? = wi.heap[b]? := hg.block _ h.lt (fun e => own_base h.own h.gB e.symm)
  exact ⟨by rw [World.cell?_of_block hb]; exact h.s1, by rw [World.frozen?_of_block hb]; exact h.f1, Nat.lt_of_lt_of_le h.lt hg.size⟩
theorem AB.app (h : AB w2 wi b fin av l) (a : ArcL) {v' : Value} {k : Nat} (hk : k = l.length + 1) (hg : wi.grownBy w' av.ownBlock)
    (hx : w'.ownsRow w2.heap.size 78 4 v' k (arcsCells l ++ arcCells a)) : AB w2 (w'.setCell ⟨b, 1, none⟩ v') b fin v' (l ++ [a]) := by
  have hne : ∀ j, j < w2.heap.size → some j ≠ av.ownBlock := fun j hj e => own_base h.own hj e.symm
  have hblk : ∀ j, j < w2.heap.size → w'.heap[j]? = wi.heap[j]? := fun j hj => hg.block j (Nat.lt_of_lt_of_le hj h.grown.size) (hne j hj)
  have hgb := h.gB
  have ho : OwnArcs w' w2.heap.size v' (l ++ [a]) := by unfold OwnArcs; rw [arcsCells_snoc, List.length_append]; subst hk; exact hx
  refine ⟨ho.setCell (own_base ho hgb) _, ?_, ?_, ?_, ?_, ?_, hgb⟩
  · rw [World.cell?_setCell_other _ _ _ _ (by intro e; injection e with e1 e2; omega), World.cell?_of_block (hblk _ hgb)]; exact h.s0
  · exact World.cell?_setCell_same _ _ _ (u := av) (by rw [World.cell?_of_block (hblk _ hgb)]; exact h.s1)
  · rw [World.frozen?_setCell, World.frozen?_of_block (hblk _ hgb)]; exact h.f0
  · rw [World.frozen?_setCell, World.frozen?_of_block (hblk _ hgb)]; exact h.f1
  · refine ⟨hg.os.trans h.grown.os, hg.tape.trans h.grown.tape, hg.output.trans h.grown.output, ?_, fun j hj hne' => ?_⟩
    · have := hg.size; have := h.grown.size; simp [World.setCell]; omega
    · rw [Below.heap_setCell _ _ _ _ (by simpa using hne'), hblk j hj]; exact h.grown.block j hj hne'
theorem AB.below {wo : World} (h : AB w2 wi b fin av l) (hb : Below wo.heap.size wo w2) (hg : wo.heap.size ≤ b) : Below wo.heap.size wo wi := below_of_grown hb h.grown hb.size hg
theorem AB.form (h : AB w2 wi b fin av l) : ∃ A c, av = .slice A l.length c ∧ l.length ≤ c ∧ c ≤ maxLen := own_form h.own
end
end Go.Proofs.YtkmnacchiagipaaDoor

namespace Go.Proofs.YtkmnacchiagipaaDoor
open Go.RowKit

structure MBox (w : World) (b : Nat) (A : Option Addr) (c : Nat) (m : MachL) : Prop where
  blk : Blk w b #[.int .i64 m.start, .slice A m.states.length c] 41
  at_ : StatesAt w A m.states
section
variable {w w' : World} {b : Nat} {A : Option Addr} {c : Nat} {m : MachL}
theorem MBox.step (h : MBox w b A c m) (hb : Below w.heap.size w w') : MBox w' b A c m := ⟨h.blk.step hb, h.at_.below hb (Nat.le_refl _)⟩
theorem MBox.mach (h : MBox w b A c m) : MachAt w (.agg #[.int .i64 m.start, .slice A m.states.length c]) m := ⟨A, c, rfl, h.at_⟩
theorem MBox.new (h : StatesAt w A m.states) : MBox (w.alloc (.cells #[.int .i64 m.start, .slice A m.states.length c] 41)) w.heap.size A c m :=
  ⟨Blk.new _ _ _, h.below ((Below.refl _ _).alloc (Nat.le_refl _) _) (Nat.le_refl _)⟩
theorem MBox.alloc (h : MBox w b A c m) (o : Obj) : MBox (w.alloc o) b A c m := h.step ((Below.refl _ _).alloc (Nat.le_refl _) o)
end
/-- a machine of the call's own, opened -/
theorem own_open {w : World} {B : Nat} {v : Value} {m : MachL} (h : OwnMach w B v m) : ∃ A c, v = .agg #[.int .i64 m.start, .slice A m.states.length c] ∧ StatesAt w A m.states := h.at_
end Go.Proofs.YtkmnacchiagipaaDoor
