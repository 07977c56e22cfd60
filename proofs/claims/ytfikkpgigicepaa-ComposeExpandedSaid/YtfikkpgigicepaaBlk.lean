/- Whole blocks: what they hold, and what keeps them. -/
import Derived.Test.YtfikkpgigicepaaSlices
namespace Go.Proofs.Ytfikkpgigicepaa
open Go.RowKit

/-- block b has the cells cs, none of them frozen -/
def Blk (w : World) (b : Nat) (cs : Array Value) (t : TypeId) : Prop := w.heap[b]? = some (.cells cs t (0, 0))

section
variable {w w' : World} {b : Nat} {cs : Array Value} {t : TypeId}
theorem Blk.lt (h : Blk w b cs t) : b < w.heap.size := (Array.getElem?_eq_some_iff.1 h).1
theorem Blk.cell (h : Blk w b cs t) (o : Nat) : w.cell? ⟨b, o, none⟩ = cs[o]? := by unfold Blk at h; simp [World.cell?, h]
theorem Blk.froz (h : Blk w b cs t) (o : Nat) : w.frozen? ⟨b, o, none⟩ = false := by unfold Blk at h; simp [World.frozen?, h]
theorem Blk.kept (h : Blk w b cs t) (e : w'.heap[b]? = w.heap[b]?) : Blk w' b cs t := e.trans h
theorem Blk.below (h : Blk w b cs t) {B : Nat} (hb : Below B w w') (hB : b < B) : Blk w' b cs t := h.kept (hb.block b hB)
theorem Blk.step (h : Blk w b cs t) (hb : Below w.heap.size w w') : Blk w' b cs t := h.kept (hb.block b h.lt)
theorem Blk.grown (h : Blk w b cs t) {row : Option Nat} (hg : w.grownBy w' row) (hne : some b ≠ row) : Blk w' b cs t := h.kept (hg.block b h.lt hne)
theorem Blk.drew (h : Blk w b cs t) : Blk w.drew b cs t := h
theorem Blk.alloc (h : Blk w b cs t) (o : Obj) : Blk (w.alloc o) b cs t := h.kept (heap_alloc_old w o h.lt)
theorem Blk.new (w : World) (cs : Array Value) (t : TypeId) : Blk (w.alloc (.cells cs t)) w.heap.size cs t := heap_alloc_new w _
theorem Blk.new' (hb : b = w.heap.size) : Blk (w.alloc (.cells cs t)) b cs t := by subst hb; exact heap_alloc_new w _
theorem Blk.far (h : Blk w b cs t) {a : Addr} (ha : b ≠ a.block) (u : Value) : Blk (w.setCell a u) b cs t := h.kept (Below.heap_setCell _ _ _ _ ha)
theorem Blk.put (h : Blk w b cs t) (o : Nat) (u : Value) : Blk (w.setCell ⟨b, o, none⟩ u) b (cs.setIfInBounds o u) t := by
  unfold Blk at *
  simp [World.setCell, Array.getElem?_modify, h]
theorem Blk.eq (h : Blk w b cs t) {cs' : Array Value} (e : cs = cs') : Blk w b cs' t := e ▸ h
theorem Blk.rd {size n : Nat} (h : Blk w b cs t) (hn : cs.size = n * size) : Rd w (some ⟨b, 0, none⟩) n size cs.toList :=
  ⟨by simpa using hn, rdy_some _ _ _, fun j hj => by
    simp only [blk_some, ofs_some, Nat.zero_add]; rw [h.cell j]; simp at hj ⊢⟩
end
/-- what a cell holds, behind a name -/
def cellOr (w : World) (a : Addr) : Value := (w.cell? a).getD undef
/-- a limb of a region's S about a cell that the region's last store hits: it is the old one while nothing has been made -/
theorem limb_old {w : World} {a : Addr} {v : Value} (n : Nat) (h : w.cell? a = some v) : w.cell? a = some (if w.heap.size ≤ n then v else cellOr w a) := by
  split
  · exact h
  · unfold cellOr; rw [h]; rfl
theorem limb_new {w : World} {a : Addr} (v : Value) {n : Nat} (hn : n < w.heap.size) (h : (w.cell? a).isSome = true) : w.cell? a = some (if w.heap.size ≤ n then v else cellOr w a) := by
  rw [if_neg (by omega)]
  unfold cellOr
  cases e : w.cell? a with
  | none => rw [e] at h; cases h
  | some x => rfl
theorem cell_far {w : World} {a b : Addr} {v : Value} (u : Value) (h : w.cell? a = some v) (hne : b ≠ a) : (w.setCell b u).cell? a = some v := by
  rw [World.cell?_setCell_other _ _ _ _ hne]; exact h
end Go.Proofs.Ytfikkpgigicepaa
