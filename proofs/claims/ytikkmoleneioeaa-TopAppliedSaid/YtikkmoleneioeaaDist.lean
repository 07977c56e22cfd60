/- distance.From, distance.Ends: edges by state, and what both loops hold. -/
import Derived.Test.YtikkmoleneioeaaFar
import Derived.Test.YtikkmoleneioeaaGrid
import Derived.Test.YtikkmoleneioeaaCheck
namespace Go.Proofs.Ytikkmoleneioeaa
open Go.RowKit

/-! ### plain -/
def addE (rows : Edges) (x : Nat × (Nat × Int)) : Edges := rows.set x.1 (rows.getD x.1 [] ++ [x.2])
def addEs (n : Nat) (l : List (Nat × (Nat × Int))) : Edges := l.foldl addE (List.replicate n [])
theorem addEs_snoc (n : Nat) (l : List (Nat × (Nat × Int))) (x : Nat × (Nat × Int)) : addEs n (l ++ [x]) = addE (addEs n l) x := by unfold addEs; rw [List.foldl_append]; rfl
theorem addE_len (rows : Edges) (x : Nat × (Nat × Int)) : (addE rows x).length = rows.length := by simp [addE]
theorem addE_get (rows : Edges) (x : Nat × (Nat × Int)) (hx : x.1 < rows.length) (q : Nat) : (addE rows x).getD q [] = if q = x.1 then rows.getD q [] ++ [x.2] else rows.getD q [] := by
  unfold addE
  rw [List.getD_eq_getElem?_getD]
  split
  · rename_i e; subst e; rw [List.getElem?_set_self hx]; rfl
  · rename_i e; rw [List.getElem?_set_ne (fun e' => e e'.symm), ← List.getD_eq_getElem?_getD]
theorem addEs_len (n : Nat) (l : List (Nat × (Nat × Int))) : (addEs n l).length = n := by
  have key : ∀ (l : List (Nat × (Nat × Int))) (rows : Edges), (l.foldl addE rows).length = rows.length := by
    intro l
    induction l with
    | nil => intro rows; rfl
    | cons x l ih => intro rows; rw [List.foldl_cons, ih, addE_len]
  unfold addEs; rw [key]; simp
theorem addEs_mem (n : Nat) (l : List (Nat × (Nat × Int))) (hl : ∀ x ∈ l, x.1 < n) (q : Nat) (e : Nat × Int) : e ∈ (addEs n l).getD q [] ↔ (q, e) ∈ l := by
  have key : ∀ (l : List (Nat × (Nat × Int))) (rows : Edges), rows.length = n → (∀ x ∈ l, x.1 < n) → (e ∈ (l.foldl addE rows).getD q [] ↔ e ∈ rows.getD q [] ∨ (q, e) ∈ l) := by
    intro l
    induction l with
    | nil => intro rows _ _; simp
    | cons x l ih =>
      intro rows hr hl
      rw [List.foldl_cons, ih _ (by rw [addE_len]; exact hr) (fun y hy => hl y (by simp [hy])), addE_get _ _ (by rw [hr]; exact hl x (by simp)), List.mem_cons]
      obtain ⟨x1, x2⟩ := x
      simp only [Prod.mk.injEq]
      split
      · rename_i h; subst h; simp [or_assoc]
      · rename_i h; simp [h]
  unfold addEs
  rw [key l _ (by simp) hl]
  simp [List.getD_eq_getElem?_getD, List.getElem?_replicate]
  intro h
  split at h <;> simp at h
theorem addEs_row (n : Nat) (l : List (Nat × (Nat × Int))) (q : Nat) : ((addEs n l).getD q []).length ≤ l.length := by
  have key : ∀ (l : List (Nat × (Nat × Int))) (rows : Edges), ((l.foldl addE rows).getD q []).length ≤ (rows.getD q []).length + l.length := by
    intro l
    induction l with
    | nil => intro rows; simp
    | cons x l ih =>
      intro rows
      rw [List.foldl_cons]
      refine Nat.le_trans (ih _) ?_
      rw [List.length_cons]
      rcases Nat.lt_or_ge x.1 rows.length with h | h
      · rw [addE_get _ _ h]; split <;> simp <;> omega
      · have : addE rows x = rows := by unfold addE; rw [List.set_eq_of_length_le h]
        rw [this]; omega
  refine Nat.le_trans (key l _) ?_
  simp [List.getD_eq_getElem?_getD, List.getElem?_replicate]
  split <;> simp

/-- what the arcs of the first k states give -/
def pairsTo (f : Nat → ArcL → Nat × (Nat × Int)) (ss : List StateL) (k : Nat) : List (Nat × (Nat × Int)) := (List.range k).flatMap fun q => ((ss[q]?.map (·.arcs)).getD []).map (f q)
theorem pairsTo_succ (f : Nat → ArcL → Nat × (Nat × Int)) (ss : List StateL) (k : Nat) (h : k < ss.length) : pairsTo f ss (k + 1) = pairsTo f ss k ++ ss[k].arcs.map (f k) := by
  unfold pairsTo; rw [List.range_succ, List.flatMap_append]; simp [h]
theorem pairsTo_len (f : Nat → ArcL → Nat × (Nat × Int)) (ss : List StateL) (k : Nat) (h : k ≤ ss.length) : (pairsTo f ss k).length = arcsOf (ss.take k) := by
  induction k with
  | zero => simp [pairsTo, arcsOf]
  | succ k ih => rw [pairsTo_succ f ss k (by omega), List.length_append, ih (by omega), List.length_map, arcsOf_take ss k (by omega)]
theorem pairsTo_mem (f : Nat → ArcL → Nat × (Nat × Int)) (ss : List StateL) (k : Nat) (x : Nat × (Nat × Int)) : x ∈ pairsTo f ss k ↔ ∃ q, q < k ∧ ∃ h : q < ss.length, ∃ a ∈ ss[q].arcs, f q a = x := by
  unfold pairsTo
  rw [List.mem_flatMap]
  constructor
  · rintro ⟨q, hq, hx⟩
    rw [List.mem_range] at hq
    obtain ⟨a, ha, rfl⟩ := List.mem_map.1 hx
    rcases Nat.lt_or_ge q ss.length with h | h
    · exact ⟨q, hq, h, a, by simpa [h] using ha, rfl⟩
    · rw [List.getElem?_eq_none h] at ha; simp at ha
  · rintro ⟨q, hq, h, a, ha, rfl⟩
    exact ⟨q, List.mem_range.2 hq, List.mem_map.2 ⟨a, by simpa [h] using ha, rfl⟩⟩

def firstTo (g : StateL → Int) (ss : List StateL) (k : Nat) : List Int := (ss.take k).map g ++ List.replicate (ss.length - k) 0
theorem firstTo_zero (g : StateL → Int) (ss : List StateL) : firstTo g ss 0 = List.replicate ss.length 0 := by simp [firstTo]
theorem firstTo_all (g : StateL → Int) (ss : List StateL) : firstTo g ss ss.length = ss.map g := by simp [firstTo]
theorem firstTo_len (g : StateL → Int) (ss : List StateL) (k : Nat) (h : k ≤ ss.length) : (firstTo g ss k).length = ss.length := by simp [firstTo]; omega
theorem firstTo_succ (g : StateL → Int) (ss : List StateL) (k : Nat) (h : k < ss.length) : firstTo g ss (k + 1) = (firstTo g ss k).set k (g ss[k]) := by
  unfold firstTo
  rw [List.take_succ_eq_append_getElem h, show ss.length - k = (ss.length - (k + 1)) + 1 by omega, List.replicate_succ, List.set_append_right _ _ (by simp; omega)]
  rw [List.map_append, List.append_assoc]
  simp [Nat.min_eq_left (Nat.le_of_lt h)]

/-! ### memory -/
abbrev encE (e : Nat × Int) : List Value := [.int .i64 (e.1 : Nat), .int .i64 e.2]
theorem eltEdge : Elt Try.prog 148 150 (.agg #[.int .i64 0, .int .i64 0]) 2 16 := ⟨Try.underlying148, by kernel_rfl, rfl, by omega⟩
theorem eltEdges : Elt Try.prog 147 148 (.slice none 0 0) 1 24 := ⟨Try.underlying147, by kernel_rfl, rfl, by omega⟩

theorem erow_of_own {w : World} {B n c : Nat} {A : Option Addr} {l : List (Nat × Int)} (h : w.ownsRow B 150 2 (.slice A n c) n (l.flatMap encE)) (hn : n = l.length) : ERow w A l := by
  subst hn
  have r := Rd.of_own h
  have q : ∀ i (hi : i < l.length) (j : Nat) (hj : j < 2), w.cell? ⟨blk A, ofs A + (i * 2 + j), none⟩ = (encE l[i])[j]? := by
    intro i hi j hj
    have e := flatMap_at encE 2 (fun _ => rfl) l i hi j hj
    have hs : (encE l[i])[j]? = some ((encE l[i])[j]'hj) := List.getElem?_eq_getElem hj
    rw [hs]
    exact r.at' (e.trans hs)
  exact ⟨r.rdy, fun i hi => q i hi 0 (by omega), fun i hi => q i hi 1 (by omega)⟩

/-- what the loops of From and Ends hold -/
structure EK (w1 wr : World) (first : List Int) (vs : List Value) (rows : Edges) : Prop where
  grid : Grid encE 150 148 2 (w1.heap.size + 2) wr (w1.heap.size + 1) vs rows
  fb : Blk wr w1.heap.size (icellsA first) 3
  bel : Below w1.heap.size w1 wr

section
variable {w1 wr w' : World} {first : List Int} {vs : List Value} {rows : Edges}
theorem EK.keep (h : EK w1 wr first vs rows) (hb : Below wr.heap.size wr w') : EK w1 w' first vs rows := ⟨h.grid.keep hb, h.fb.step hb, Below.step h.bel hb⟩
theorem EK.vs_ne (h : EK w1 wr first vs rows) {i : Nat} (hi : i < vs.length) {b : Nat} (hb : b < w1.heap.size + 2) : vs[i].ownBlock ≠ some b := fun e => by
  have := (h.grid.block_lt hi e).1; omega
theorem EK.setFirst (h : EK w1 wr first vs rows) (q : Nat) (x : Int) : EK w1 (wr.setCell ⟨w1.heap.size, q, none⟩ (.int .i64 x)) (first.set q x) vs rows :=
  ⟨h.grid.far (by simp) (fun i hi => h.vs_ne hi (by simp)) _, by have := h.fb.put q (.int .i64 x); rw [icellsA_set] at this; exact this, h.bel.setCell (by simp) _⟩
/-- a row grows -/
theorem EK.rowApp (h : EK w1 wr first vs rows) (q : Nat) (hq : q < rows.length) (e : Nat × Int) {v' : Value} {k : Nat} (hk : k = rows[q].length + 1) (hg : wr.grownBy w' (vs[q]'(by rw [h.grid.len]; exact hq)).ownBlock)
    (hx : w'.ownsRow (w1.heap.size + 2) 150 2 v' k (rows[q].flatMap encE ++ encE e)) (hat : ∀ b, v'.ownBlock = some b → (vs[q]'(by rw [h.grid.len]; exact hq)).ownBlock = some b ∨ wr.heap.size ≤ b) :
    EK w1 (w'.setCell ⟨w1.heap.size + 1, q, none⟩ v') first (vs.set q v') (rows.set q (rows[q] ++ [e])) := by
  have hqv : q < vs.length := by rw [h.grid.len]; exact hq
  have hrow : ∀ b, (vs[q]).ownBlock = some b → w1.heap.size ≤ b := fun b hb => by have := (h.grid.block_lt hqv hb).1; omega
  refine ⟨h.grid.put q hq e hk hg hx hat, (h.fb.grown hg (h.vs_ne hqv (by omega)).symm).far (by simp) _, ?_⟩
  exact (h.bel.grown hg h.bel.size hrow).setCell (by simp) _
theorem EK.edges (h : EK w1 wr first vs rows) : EdgesAt wr (some ⟨w1.heap.size + 1, 0, none⟩) rows := by
  refine ⟨rdy_some _ _ _, fun q hq => ?_⟩
  obtain ⟨A, c, hv, -, -⟩ := h.grid.form q hq
  have h1 := h.grid.cell q hq
  have h2 := h.grid.own q hq (by rw [h.grid.len]; exact hq)
  rw [hv] at h1 h2
  exact ⟨A, c, by simpa [blk_some, ofs_some] using h1, erow_of_own h2 rfl⟩
theorem EK.rd (h : EK w1 wr first vs rows) {n : Nat} (hn : first.length = n) : Rd wr (some ⟨w1.heap.size, 0, none⟩) n 1 (icells first) := by
  have := h.fb.rd (size := 1) (n := n) (by simp [hn])
  simpa using this
end

/-- distances in a slice of the call's own -/
structure DistAt (w0 w : World) (v : Value) (n : Nat) (first : List Int) (E : Edges) : Prop where
  ex : ∃ (b : Nat) (d : List Int), v = .slice (some ⟨b, 0, none⟩) n n ∧ Blk w b (icellsA d) 3 ∧ w0.heap.size ≤ b ∧ d.length = n ∧ ∀ q, q < n → IsDist first E q (d.getD q 0)
end Go.Proofs.Ytikkmoleneioeaa
