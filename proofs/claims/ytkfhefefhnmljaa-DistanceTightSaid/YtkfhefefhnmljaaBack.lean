/- reach.Back: what leads to each state. -/
import Derived.Test.YtkfhefefhnmljaaAhead2
import Derived.Test.YtkfhefefhnmljaaGrid
import Derived.Test.YtkfhefefhnmljaaBackPlain
import Derived.Deep.RegionHeld3
namespace Go.Proofs.Ytkfhefefhnmljaa
open Go.RowKit

abbrev encN (p : Nat) : List Value := [.int .i64 (p : Int)]
theorem encN_cells (l : List Nat) : l.flatMap encN = ncells l := by
  induction l with
  | nil => rfl
  | cons a l ih => simp only [List.flatMap_cons, ih, ncells, List.map_cons]; rfl
theorem eltInts : Elt Try.prog 95 38 (.slice none 0 0) 1 24 := ⟨Try.underlying95, by kernel_rfl, rfl, by omega⟩

/-- what Back's loops hold -/
structure BK (w1 wr : World) (n : Nat) (vs : List Value) (rows : List (List Nat)) (fv : Value) (es : List Nat) : Prop where
  grid : Grid encN 3 38 1 (w1.heap.size + 2) wr w1.heap.size vs rows
  bb : Blk wr (w1.heap.size + 1) #[.slice (some ⟨w1.heap.size, 0, none⟩) n n] 95
  fr : wr.ownsRow (w1.heap.size + 2) 3 1 fv es.length (ncells es)
  ap : ∀ i (h : i < vs.length), Apart fv vs[i]
  bel : Below w1.heap.size w1 wr

section
variable {w1 wr w' : World} {n : Nat} {vs : List Value} {rows : List (List Nat)} {fv : Value} {es : List Nat}
theorem BK.keep (h : BK w1 wr n vs rows fv es) (hb : Below wr.heap.size wr w') : BK w1 w' n vs rows fv es :=
  ⟨h.grid.keep hb, h.bb.step hb, own_below h.fr hb (Nat.le_refl _), h.ap, h.bel.trans (hb.mono h.bel.size)⟩
theorem BK.fv_ne (h : BK w1 wr n vs rows fv es) {b : Nat} (hb : b < w1.heap.size + 2) : fv.ownBlock ≠ some b := own_base h.fr hb
theorem BK.vs_ne (h : BK w1 wr n vs rows fv es) {i : Nat} (hi : i < vs.length) {b : Nat} (hb : b < w1.heap.size + 2) : vs[i].ownBlock ≠ some b := fun e => by
  have := (h.grid.block_lt hi e).1; omega
/-- what it began with grows -/
theorem BK.fromApp (h : BK w1 wr n vs rows fv es) (p : Nat) {v' : Value} {k : Nat} (hk : k = es.length + 1) (hg : wr.grownBy w' fv.ownBlock) (hx : w'.ownsRow (w1.heap.size + 2) 3 1 v' k (ncells es ++ [.int .i64 p]))
    (hat : ∀ b, v'.ownBlock = some b → fv.ownBlock = some b ∨ wr.heap.size ≤ b) : BK w1 w' n vs rows v' (es ++ [p]) := by
  refine ⟨h.grid.grown hg (h.fv_ne (by omega)) (fun i hi k hk => fun e => h.ap i hi k e hk), h.bb.grown hg (h.fv_ne (by omega)).symm, ?_, fun i hi b hb hb2 => ?_, ?_⟩
  · rw [ncells_snoc, List.length_append]; subst hk; exact hx
  · rcases hat b hb with h1 | h1
    · exact h.ap i hi b h1 hb2
    · have := (h.grid.block_lt hi hb2).2; omega
  · exact h.bel.grown hg h.bel.size (fun b hb => by have := (h.fr.lt b hb).1; omega)
/-- a row grows -/
theorem BK.rowApp (h : BK w1 wr n vs rows fv es) (q : Nat) (hq : q < rows.length) (p : Nat) {v' : Value} {k : Nat} (hk : k = rows[q].length + 1) (hg : wr.grownBy w' (vs[q]'(by rw [h.grid.len]; exact hq)).ownBlock)
    (hx : w'.ownsRow (w1.heap.size + 2) 3 1 v' k (rows[q].flatMap encN ++ encN p)) (hat : ∀ b, v'.ownBlock = some b → (vs[q]'(by rw [h.grid.len]; exact hq)).ownBlock = some b ∨ wr.heap.size ≤ b) :
    BK w1 (w'.setCell ⟨w1.heap.size, q, none⟩ v') n (vs.set q v') (rows.set q (rows[q] ++ [p])) fv es := by
  have hqv : q < vs.length := by rw [h.grid.len]; exact hq
  have hrow : ∀ b, (vs[q]).ownBlock = some b → w1.heap.size ≤ b := fun b hb => by have := (h.grid.block_lt hqv hb).1; omega
  refine ⟨h.grid.put q hq p hk hg hx hat, (h.bb.grown hg (h.vs_ne hqv (by omega)).symm).far (by simp) _, ?_, fun i hi b hb hb2 => ?_, ?_⟩
  · refine own_setCell (World.ownsRow.kept h.fr hg ?_) (h.fv_ne (by simp)) _
    cases hb : fv.ownBlock with
    | none => exact .inl rfl
    | some b => exact .inr (fun e => h.ap q hqv b hb e.symm)
  · by_cases e : q = i
    · subst e
      simp only [List.getElem_set_self] at hb2
      rcases hat b hb2 with h1 | h1
      · exact h.ap q hqv b hb h1
      · have := (h.fr.lt b hb).2; omega
    · rw [List.getElem_set_ne e] at hb2
      exact h.ap i (by simpa using hi) b hb hb2
  · exact (h.bel.grown hg h.bel.size hrow).setCell (Nat.le_refl _) _
end
end Go.Proofs.Ytkfhefefhnmljaa
