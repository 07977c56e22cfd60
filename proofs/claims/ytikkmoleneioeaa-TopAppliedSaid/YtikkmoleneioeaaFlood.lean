/- reach.flood: a closure that meets a state. -/
/- reach.flood: the loops. -/
import Derived.Test.YtikkmoleneioeaaFloodPlain
import Derived.Test.YtikkmoleneioeaaMem
import Derived.Test.YtikkmoleneioeaaSlices
import Derived.WalkSmall
import Derived.LoopTactic
import Derived.Deep.LoopGhost
import Derived.Deep.DeepCutAuto
import Derived.Deep.CutBlock
namespace Go.Proofs.Ytikkmoleneioeaa
open Go.RowKit

abbrev ncells (l : List Nat) : List Value := icells (l.map (fun k : Nat => (k : Int)))
abbrev bcells (l : List Bool) : Array Value := (l.map Value.bool).toArray
theorem eltInt : Elt Try.prog 25 3 (.int .i64 0) 1 8 := ⟨Try.underlying25, by kernel_rfl, rfl, by omega⟩

theorem bcells_get (l : List Bool) (p : Nat) (h : p < l.length) : (bcells l)[p]? = some (.bool (l.getD p true)) := by
  simp [bcells, h, List.getD_eq_getElem?_getD]
theorem bcells_set (l : List Bool) (p : Nat) (b : Bool) : (bcells l).setIfInBounds p (.bool b) = bcells (l.set p b) := by
  simp [bcells, List.map_set]
theorem bcells_size (l : List Bool) : (bcells l).size = l.length := by simp [bcells]

/-- a flood that is under way: w: the world in which it began; R: the block of what it began with -/
structure FS (w W : World) (R : Option Nat) (n : Nat) (x : List Bool × List Nat) (tv : Value) : Prop where
  len : x.1.length = n
  row : Blk W w.heap.size (bcells x.1) 4
  sb : Blk W (w.heap.size + 1) #[.slice (some ⟨w.heap.size, 0, none⟩) n n] 153
  tb : Blk W (w.heap.size + 2) #[tv] 25
  own : W.ownsRow 0 3 1 tv x.2.length (ncells x.2)
  at_ : ∀ b, tv.ownBlock = some b → R = some b ∨ w.heap.size + 3 ≤ b
  old : ∀ b, R = some b → b < w.heap.size
  grown : w.grownBy W R
  bound : x.2.length + lack x.1 ≤ 1000

section
variable {w W W' : World} {R : Option Nat} {n : Nat} {x : List Bool × List Nat} {tv : Value}
theorem FS.ne (h : FS w W R n x tv) {b : Nat} (h1 : w.heap.size ≤ b) (h2 : b < w.heap.size + 3) : tv.ownBlock ≠ some b := fun e => by
  rcases h.at_ b e with hr | hb
  · have := h.old b hr; omega
  · omega
theorem grown_set {row : Option Nat} (h : w.grownBy W row) {a : Addr} (ha : w.heap.size ≤ a.block) (u : Value) : w.grownBy (W.setCell a u) row :=
  ⟨h.os, h.tape, h.output, by have := h.size; simp [World.setCell]; exact this, fun k hk hne => by
    rw [Below.heap_setCell _ _ _ _ (by omega)]; exact h.block k hk hne⟩
theorem grown_new_then {row : Option Nat} (h : w.grownBy W row) (hb : Below W.heap.size W W') : w.grownBy W' row :=
  ⟨hb.os.trans h.os, hb.tape.trans h.tape, hb.output.trans h.output, Nat.le_trans h.size hb.size, fun k hk hne => (hb.block k (Nat.lt_of_lt_of_le hk h.size)).trans (h.block k hk hne)⟩
theorem FS.keep (h : FS w W R n x tv) (hb : Below W.heap.size W W') : FS w W' R n x tv :=
  ⟨h.len, h.row.step hb, h.sb.step hb, h.tb.step hb, own_below h.own hb (Nat.le_refl _), h.at_, h.old, grown_new_then h.grown hb, h.bound⟩
end

theorem World.size_setCell' (w : World) (a : Addr) (v : Value) : (w.setCell a v).heap.size = w.heap.size := by simp [World.setCell]
theorem ncells_snoc (l : List Nat) (p : Nat) : ncells (l ++ [p]) = ncells l ++ [.int .i64 (p : Int)] := by simp [ncells]

end Go.Proofs.Ytikkmoleneioeaa

namespace Go.Proofs.Ytikkmoleneioeaa
open Go.RowKit

theorem madeBools (n : Nat) : madeCells #[Value.bool false] n = bcells (List.replicate n false) := by
  apply Array.ext
  · simp [madeCells, bcells]
  · intro i h1 h2
    simp [madeCells, bcells, Nat.mod_one]
theorem eltBool : Elt Try.prog 153 4 (.bool false) 1 1 := ⟨Try.underlying153, by kernel_rfl, rfl, by omega⟩

theorem grown_of_below' {w w' : World} (hb : Below w.heap.size w w') (row : Option Nat) : w.grownBy w' row := ⟨hb.os, hb.tape, hb.output, hb.size, fun k hk _ => hb.block k hk⟩
end Go.Proofs.Ytikkmoleneioeaa
