/- distance.From, distance.Ends: edges by state, and what both loops hold. -/
/- distance.From walked. -/
/- distance.Ends walked. -/
/- Distances of machines of raw numbers: plain laws; both. -/
/- distance.Least. -/
import Derived.Test.YtkmnacchiagipaaDoorFarPlain
import Derived.Test.YtkmnacchiagipaaDoorGrid
import Derived.Test.YtkmnacchiagipaaDoorCheck
import Derived.Test.YtkmnacchiagipaaDoorRegionLast
import Derived.Deep.RegionHeld3
import Derived.Deep.CutBlock
import Derived.Test.YtkmnacchiagipaaDoorValid
namespace Go.Proofs.YtkmnacchiagipaaDoor
open Go.RowKit

/-! ### plain -/
def addE (rows : Edges) (x : Nat × (Nat × Int)) : Edges := rows.set x.1 (rows.getD x.1 [] ++ [x.2])
def addEs (n : Nat) (l : List (Nat × (Nat × Int))) : Edges := l.foldl addE (List.replicate n [])
theorem addEs_snoc (n : Nat) (l : List (Nat × (Nat × Int))) (x : Nat × (Nat × Int)) : addEs n (l ++ [x]) = addE (addEs n l) x := by unfold addEs; rw [List.foldl_append]; rfl
theorem addE_len (rows : Edges) (x : Nat × (Nat × Int)) : (addE rows x).length = rows.length := by simp [addE]
theorem addE_get (rows : Edges) (x : Nat × (Nat × Int)) (hx : x.1 < rows.length) (q : Nat) : (addE rows x).getD q [] = if q = x.1 then rows.getD q [] ++ [x.2] else rows.getD q [] := by
  unfold addE
  rw [List.getD_eq_getElem?_getD]
  split
  · rename_i e; subst e; rw [List.getElem?_set_self hx]; rfl
  · rename_i e; rw [List.getElem?_set_ne (fun e' => e e'.symm), ← List.getD_eq_getElem?_getD]
theorem addEs_len (n : Nat) (l : List (Nat × (Nat × Int))) : (addEs n l).length = n := by
  have key : ∀ (l : List (Nat × (Nat × Int))) (rows : Edges), (l.foldl addE rows).length = rows.length := by
    intro l
    induction l with
    | nil => intro rows; rfl
    | cons x l ih => intro rows; rw [List.foldl_cons, ih, addE_len]
  unfold addEs; rw [key]; simp
theorem addEs_mem (n : Nat) (l : List (Nat × (Nat × Int))) (hl : ∀ x ∈ l, x.1 < n) (q : Nat) (e : Nat × Int) : e ∈ (addEs n l).getD q [] ↔ (q, e) ∈ l := by
  have key : ∀ (l : List (Nat × (Nat × Int))) (rows : Edges), rows.length = n → (∀ x ∈ l, x.1 < n) → (e ∈ (l.foldl addE rows).getD q [] ↔ e ∈ rows.getD q [] ∨ (q, e) ∈ l) := by
    intro l
    induction l with
    | nil => intro rows _ _; simp
    | cons x l ih =>
      intro rows hr hl
      rw [List.foldl_cons, ih _ (by rw [addE_len]; exact hr) (fun y hy => hl y (by simp [hy])), addE_get _ _ (by rw [hr]; exact hl x (by simp)), List.mem_cons]
      obtain ⟨x1, x2⟩ := x
      simp only [Prod.mk.injEq]
      split
      · rename_i h; subst h; simp [or_assoc]
      · rename_i h; simp [h]
  unfold addEs
  rw [key l _ (by simp) hl]
  simp [List.getD_eq_getElem?_getD, List.getElem?_replicate]
  intro h
  split at h <;> simp at h
theorem addEs_row (n : Nat) (l : List (Nat × (Nat × Int))) (q : Nat) : ((addEs n l).getD q []).length ≤ l.length := by
  have key : ∀ (l : List (Nat × (Nat × Int))) (rows : Edges), ((l.foldl addE rows).getD q []).length ≤ (rows.getD q []).length + l.length := by
    intro l
    induction l with
    | nil => intro rows; simp
    | cons x l ih =>
      intro rows
      rw [List.foldl_cons]
      refine Nat.le_trans (ih _) ?_
      rw [List.length_cons]
      rcases Nat.lt_or_ge x.1 rows.length with h | h
      · rw [addE_get _ _ h]; split <;> simp <;> omega
      · have : addE rows x = rows := by unfold addE; rw [List.set_eq_of_length_le h]
        rw [this]; omega
  refine Nat.le_trans (key l _) ?_
  simp [List.getD_eq_getElem?_getD, List.getElem?_replicate]
  split <;> simp

/-- what the arcs of the first k states give -/
def pairsTo (f : Nat → ArcL → Nat × (Nat × Int)) (ss : List StateL) (k : Nat) : List (Nat × (Nat × Int)) := (List.range k).flatMap fun q => ((ss[q]?.map (·.arcs)).getD []).map (f q)
theorem pairsTo_succ (f : Nat → ArcL → Nat × (Nat × Int)) (ss : List StateL) (k : Nat) (h : k < ss.length) : pairsTo f ss (k + 1) = pairsTo f ss k ++ ss[k].arcs.map (f k) := by
  unfold pairsTo; rw [List.range_succ, List.flatMap_append]; simp [h]
theorem pairsTo_len (f : Nat → ArcL → Nat × (Nat × Int)) (ss : List StateL) (k : Nat) (h : k ≤ ss.length) : (pairsTo f ss k).length = arcsOf (ss.take k) := by
  induction k with
  | zero => simp [pairsTo, arcsOf]
  | succ k ih => rw [pairsTo_succ f ss k (by omega), List.length_append, ih (by omega), List.length_map, arcsOf_take ss k (by omega)]
theorem pairsTo_mem (f : Nat → ArcL → Nat × (Nat × Int)) (ss : List StateL) (k : Nat) (x : Nat × (Nat × Int)) : x ∈ pairsTo f ss k ↔ ∃ q, q < k ∧ ∃ h : q < ss.length, ∃ a ∈ ss[q].arcs, f q a = x := by
  unfold pairsTo
  rw [List.mem_flatMap]
  constructor
  · rintro ⟨q, hq, hx⟩
    rw [List.mem_range] at hq
    obtain ⟨a, ha, rfl⟩ := List.mem_map.1 hx
    rcases Nat.lt_or_ge q ss.length with h | h
    · exact ⟨q, hq, h, a, by simpa [h] using ha, rfl⟩
    · rw [List.getElem?_eq_none h] at ha; simp at ha
  · rintro ⟨q, hq, h, a, ha, rfl⟩
    exact ⟨q, List.mem_range.2 hq, List.mem_map.2 ⟨a, by simpa [h] using ha, rfl⟩⟩

def firstTo (g : StateL → Int) (ss : List StateL) (k : Nat) : List Int := (ss.take k).map g ++ List.replicate (ss.length - k) 0
theorem firstTo_zero (g : StateL → Int) (ss : List StateL) : firstTo g ss 0 = List.replicate ss.length 0 := by simp [firstTo]
theorem firstTo_all (g : StateL → Int) (ss : List StateL) : firstTo g ss ss.length = ss.map g := by simp [firstTo]
theorem firstTo_len (g : StateL → Int) (ss : List StateL) (k : Nat) (h : k ≤ ss.length) : (firstTo g ss k).length = ss.length := by simp [firstTo]; omega
theorem firstTo_succ (g : StateL → Int) (ss : List StateL) (k : Nat) (h : k < ss.length) : firstTo g ss (k + 1) = (firstTo g ss k).set k (g ss[k]) := by
  unfold firstTo
  rw [List.take_succ_eq_append_getElem h, show ss.length - k = (ss.length - (k + 1)) + 1 by omega, List.replicate_succ, List.set_append_right _ _ (by simp; omega)]
  rw [List.map_append, List.append_assoc]
  simp [Nat.min_eq_left (Nat.le_of_lt h)]

/-! ### memory -/
abbrev encE (e : Nat × Int) : List Value := [.int .i64 (e.1 : Nat), .int .i64 e.2]
theorem eltEdge : Elt Tryd.prog 194 196 (.agg #[.int .i64 0, .int .i64 0]) 2 16 := ⟨Tryd.underlying194, by kernel_rfl, rfl, by omega⟩
theorem eltEdges : Elt Tryd.prog 193 194 (.slice none 0 0) 1 24 := ⟨Tryd.underlying193, by kernel_rfl, rfl, by omega⟩

theorem erow_of_own {w : World} {B n c : Nat} {A : Option Addr} {l : List (Nat × Int)} (h : w.ownsRow B 196 2 (.slice A n c) n (l.flatMap encE)) (hn : n = l.length) : ERow w A l := by
  subst hn
  have r := Rd.of_own h
  have q : ∀ i (hi : i < l.length) (j : Nat) (hj : j < 2), w.cell? ⟨blk A, ofs A + (i * 2 + j), none⟩ = (encE l[i])[j]? := by
    intro i hi j hj
    have e := flatMap_at encE 2 (fun _ => rfl) l i hi j hj
    have hs : (encE l[i])[j]? = some ((encE l[i])[j]'hj) := List.getElem?_eq_getElem hj
    rw [hs]
    exact r.at' (e.trans hs)
  exact ⟨r.rdy, fun i hi => q i hi 0 (by omega), fun i hi => q i hi 1 (by omega)⟩

/-- what the loops of From and Ends hold -/
structure EK (w1 wr : World) (first : List Int) (vs : List Value) (rows : Edges) : Prop where
  grid : Grid encE 196 194 2 (w1.heap.size + 2) wr (w1.heap.size + 1) vs rows
  fb : Blk wr w1.heap.size (icellsA first) 3
  bel : Below w1.heap.size w1 wr

section
variable {w1 wr w' : World} {first : List Int} {vs : List Value} {rows : Edges}
theorem EK.keep (h : EK w1 wr first vs rows) (hb : Below wr.heap.size wr w') : EK w1 w' first vs rows := ⟨h.grid.keep hb, h.fb.step hb, Below.step h.bel hb⟩
theorem EK.vs_ne (h : EK w1 wr first vs rows) {i : Nat} (hi : i < vs.length) {b : Nat} (hb : b < w1.heap.size + 2) : vs[i].ownBlock ≠ some b := fun e => by
  have := (h.grid.block_lt hi e).1; omega
theorem EK.setFirst (h : EK w1 wr first vs rows) (q : Nat) (x : Int) : EK w1 (wr.setCell ⟨w1.heap.size, q, none⟩ (.int .i64 x)) (first.set q x) vs rows :=
  ⟨h.grid.far (by simp) (fun i hi => h.vs_ne hi (by simp)) _, by have := h.fb.put q (.int .i64 x); rw [icellsA_set] at this; exact this, h.bel.setCell (by simp) _⟩
/-- a row grows -/
theorem EK.rowApp (h : EK w1 wr first vs rows) (q : Nat) (hq : q < rows.length) (e : Nat × Int) {v' : Value} {k : Nat} (hk : k = rows[q].length + 1) (hg : wr.grownBy w' (vs[q]'(by rw [h.grid.len]; exact hq)).ownBlock)
    (hx : w'.ownsRow (w1.heap.size + 2) 196 2 v' k (rows[q].flatMap encE ++ encE e)) (hat : ∀ b, v'.ownBlock = some b → (vs[q]'(by rw [h.grid.len]; exact hq)).ownBlock = some b ∨ wr.heap.size ≤ b) :
    EK w1 (w'.setCell ⟨w1.heap.size + 1, q, none⟩ v') first (vs.set q v') (rows.set q (rows[q] ++ [e])) := by
  have hqv : q < vs.length := by rw [h.grid.len]; exact hq
  have hrow : ∀ b, (vs[q]).ownBlock = some b → w1.heap.size ≤ b := fun b hb => by have := (h.grid.block_lt hqv hb).1; omega
  refine ⟨h.grid.put q hq e hk hg hx hat, (h.fb.grown hg (h.vs_ne hqv (by omega)).symm).far (by simp) _, ?_⟩
  exact (h.bel.grown hg h.bel.size hrow).setCell (by simp) _
theorem EK.edges (h : EK w1 wr first vs rows) : EdgesAt wr (some ⟨w1.heap.size + 1, 0, none⟩) rows := by
  refine ⟨rdy_some _ _ _, fun q hq => ?_⟩
  obtain ⟨A, c, hv, -, -⟩ := h.grid.form q hq
  have h1 := h.grid.cell q hq
  have h2 := h.grid.own q hq (by rw [h.grid.len]; exact hq)
  rw [hv] at h1 h2
  exact ⟨A, c, by simpa [blk_some, ofs_some] using h1, erow_of_own h2 rfl⟩
theorem EK.rd (h : EK w1 wr first vs rows) {n : Nat} (hn : first.length = n) : Rd wr (some ⟨w1.heap.size, 0, none⟩) n 1 (icells first) := by
  have := h.fb.rd (size := 1) (n := n) (by simp [hn])
  simpa using this
end

/-- distances in a slice of the call's own -/
structure DistAt (w0 w : World) (v : Value) (n : Nat) (first : List Int) (E : Edges) : Prop where
  ex : ∃ (b : Nat) (d : List Int), v = .slice (some ⟨b, 0, none⟩) n n ∧ Blk w b (icellsA d) 3 ∧ w0.heap.size ≤ b ∧ d.length = n ∧ ∀ q, q < n → IsDist first E q (d.getD q 0)
end Go.Proofs.YtkmnacchiagipaaDoor

namespace Go.Proofs.YtkmnacchiagipaaDoor
open Go.RowKit

def fF (q : Nat) (a : ArcL) : Nat × (Nat × Int) := (q, (a.to.toNat, a.wt))
def gF (_ : StateL) : Int := 1000000001
/-- what it costs to be in a state at first -/
def fromFirst (m : MachL) : List Int := if 0 ≤ m.start then (m.states.map gF).set m.start.toNat 0 else m.states.map gF
def fromE (m : MachL) : Edges := addEs m.states.length (pairsTo fF m.states m.states.length)

theorem From_ok {m : MachL} (hv : Valid m) : FarOk m.states.length (fromFirst m) (fromE m) := by
  have hp : ∀ x ∈ pairsTo fF m.states m.states.length, x.1 < m.states.length ∧ x.2.1 < m.states.length ∧ 0 ≤ x.2.2 ∧ x.2.2 ≤ 1000000000 := by
    intro x hx
    obtain ⟨q, hq, hl, a, ha, rfl⟩ := (pairsTo_mem _ _ _ _).1 hx
    have h1 := (hv.st _ (List.getElem_mem hl)).2 a ha
    have := h1.t0; have := h1.t1; have := h1.w0; have := h1.w1
    simp only [fF]
    omega
  refine ⟨by unfold fromFirst; split <;> simp, addEs_len _ _, fun x hx => ?_, fun l hl e he => ?_⟩
  · unfold fromFirst at hx
    split at hx
    · rcases List.mem_or_eq_of_mem_set hx with h | h
      · obtain ⟨s, -, rfl⟩ := List.mem_map.1 h; simp [gF]
      · subst h; omega
    · obtain ⟨s, -, rfl⟩ := List.mem_map.1 hx; simp [gF]
  · obtain ⟨q, hq, rfl⟩ := List.getElem_of_mem hl
    have hg : (fromE m).getD q [] = (fromE m)[q] := by simp [List.getD_eq_getElem?_getD, hq]
    rw [← hg] at he
    have := hp _ ((addEs_mem _ _ (fun y hy => (hp y hy).1) q e).1 he)
    exact this.2
theorem From_mem {m : MachL} (hv : Valid m) (q : Nat) (e : Nat × Int) : e ∈ (fromE m).getD q [] ↔ ∃ p, ∃ h : p < m.states.length, ∃ a ∈ m.states[p].arcs, fF p a = (q, e) := by
  unfold fromE
  rw [addEs_mem]
  · rw [pairsTo_mem]
    constructor
    · rintro ⟨p, _, h⟩; exact ⟨p, h⟩
    · rintro ⟨p, h, r⟩; exact ⟨p, h, h, r⟩
  · intro x hx
    obtain ⟨q, hq, hl, a, ha, rfl⟩ := (pairsTo_mem _ _ _ _).1 hx
    have h1 := (hv.st _ (List.getElem_mem hl)).2 a ha
    have := h1.t0; have := h1.t1
    simp only [fF]
    omega

end Go.Proofs.YtkmnacchiagipaaDoor

namespace Go.Proofs.YtkmnacchiagipaaDoor
open Go.RowKit

def fE (q : Nat) (a : ArcL) : Nat × (Nat × Int) := (a.to.toNat, (q, a.wt))
def gE (s : StateL) : Int := s.final
def endsFirst (m : MachL) : List Int := m.states.map gE
def endsE (m : MachL) : Edges := addEs m.states.length (pairsTo fE m.states m.states.length)

theorem Ends_ok {m : MachL} (hv : Valid m) : FarOk m.states.length (endsFirst m) (endsE m) := by
  have hp : ∀ x ∈ pairsTo fE m.states m.states.length, x.1 < m.states.length ∧ x.2.1 < m.states.length ∧ 0 ≤ x.2.2 ∧ x.2.2 ≤ 1000000000 := by
    intro x hx
    obtain ⟨q, hq, hl, a, ha, rfl⟩ := (pairsTo_mem _ _ _ _).1 hx
    have h1 := (hv.st _ (List.getElem_mem hl)).2 a ha
    have := h1.t0; have := h1.t1; have := h1.w0; have := h1.w1
    simp only [fE]
    omega
  refine ⟨by simp [endsFirst], addEs_len _ _, fun x hx => ?_, fun l hl e he => ?_⟩
  · obtain ⟨s, hs, rfl⟩ := List.mem_map.1 hx
    have := (hv.st s hs).1
    unfold ValidFinal at this
    unfold gE; omega
  · obtain ⟨q, hq, rfl⟩ := List.getElem_of_mem hl
    have hg : (endsE m).getD q [] = (endsE m)[q] := by simp [List.getD_eq_getElem?_getD, hq]
    rw [← hg] at he
    have := hp _ ((addEs_mem _ _ (fun y hy => (hp y hy).1) q e).1 he)
    exact this.2
theorem Ends_mem {m : MachL} (hv : Valid m) (q : Nat) (e : Nat × Int) : e ∈ (endsE m).getD q [] ↔ ∃ p, ∃ h : p < m.states.length, ∃ a ∈ m.states[p].arcs, fE p a = (q, e) := by
  unfold endsE
  rw [addEs_mem]
  · rw [pairsTo_mem]
    constructor
    · rintro ⟨p, _, h⟩; exact ⟨p, h⟩
    · rintro ⟨p, h, r⟩; exact ⟨p, h, h, r⟩
  · intro x hx
    obtain ⟨q, hq, hl, a, ha, rfl⟩ := (pairsTo_mem _ _ _ _).1 hx
    have h1 := (hv.st _ (List.getElem_mem hl)).2 a ha
    have := h1.t0; have := h1.t1
    simp only [fE]
    omega

set_option maxRecDepth 100000 in
set_option maxHeartbeats 8000000 in
theorem Ends_any (v : Value) (m : MachL) (w : World) (hm : MachAt w v m) (hv : Valid m) (hs : ∀ q c, Way (endsFirst m) (endsE m) q c → ∃ c', Way (endsFirst m) (endsE m) q c' ∧ c' ≤ 1000000000) :
    Calls Tryd.prog 64 #[v] w fun e w' => ∃ sv, e = .returned (.tuple #[sv, .int .i64 0]) ∧ DistAt w w' sv m.states.length (endsFirst m) (endsE m) ∧ Below w.heap.size w w' := by
  have CH := Lib.hid (fun W hb => Check_ok v m W (hm.below hb) hv)
  have hOK := Ends_ok hv
  have hto := Lib.hid (fun s hs a ha => (⟨((hv.st s hs).2 a ha).t0, ((hv.st s hs).2 a ha).t1⟩ : 0 ≤ (a : ArcL).to ∧ a.to < m.states.length))
  obtain ⟨A, c, rfl, hS⟩ := hm
  have hsz := hv.size
  have har := hv.arcs
  have hs0 := hv.s0; have hs1 := hv.s1
  have HS := Lib.hid hS
  have rd := hS.rdy
  have HL := Lib.hid (arcsOf_le m.states)
  have HW := Lib.hid hs; have HOK := Lib.hid hOK
  have HFI : Hid (endsFirst m = m.states.map gE) := Lib.hid rfl
  have HEI : Hid (endsE m = addEs m.states.length (pairsTo fE m.states m.states.length)) := Lib.hid rfl
  clear hS hv hs hOK
  generalize endsFirst m = first at *
  generalize endsE m = E at *
  generalize m.states = ss at *
  generalize m.start = st at *
  go_enter Tryd.func64, Tryd.ntmps64
  go_wp2_with fail
  refine (CH.out _ (by repeat' (first | exact Below.refl _ _ | assumption | refine Below.drew ?_ | refine Below.alloc ?_ (by first | omega | (simp; done) | (simp; omega)) _ | refine Below.setCell ?_ (by first | omega | (simp; done) | (simp; omega)) _))).mono ?_
  rintro e w1 ⟨rfl, bel⟩
  have M1 : Hid (Blk w1 w.heap.size #[.int .i64 st, .slice A ss.length c] 41) := Lib.hid (Blk.step (Blk.new' (by simp)) bel)
  have b1 : Below w.heap.size w w1 := ((Below.refl _ _).alloc (Nat.le_refl _) _).trans (bel.mono (by simp))
  have k1 := M1.out.cell; have l1 := M1.out.lt
  clear bel CH
  have hmk := run_make_elt eltInt w1 ss.length (by omega) (by omega) (by omega)
  have hmk2 := run_make_elt eltEdges (w1.alloc (.cells (icellsA (List.replicate ss.length 0)) 3)) ss.length (by omega) (by omega) (by omega)
  simp only [Value.cells, Nat.mul_one, madeInts] at hmk
  simp only [Value.cells, Nat.mul_one, made_at, List.toArray_replicate] at hmk2
  go_wp2_with fail
  have G0 : EK w1 ((w1.alloc (.cells (icellsA (List.replicate ss.length 0)) 3)).alloc (.cells (Array.replicate ss.length (.slice none 0 0)) 194)) (firstTo gE ss 0) (List.replicate ss.length (.slice none 0 0)) (addEs ss.length (pairsTo fE ss 0)) :=
    ⟨by
      have := Grid.made (enc := encE) (e := 196) (et := 194) (size := 2) (B := w1.heap.size + 2) (w1.alloc (.cells (icellsA (List.replicate ss.length 0)) 3)) ss.length
      simpa [addEs, pairsTo] using this, by rw [firstTo_zero]; exact (Blk.new _ _ _).alloc _, ((Below.refl _ _).alloc (Nat.le_refl _) _).alloc (by simp) _⟩
  generalize (w1.alloc (.cells (icellsA (List.replicate ss.length 0)) 3)).alloc (.cells (Array.replicate ss.length (.slice none 0 0)) 194) = wl at *
  clear hmk hmk2
  go_loopw [27] (fun i wr => ∃ (k : Nat) (vs : List Value), k ≤ ss.length ∧ i = .int .i64 k ∧ EK w1 wr (firstTo gE ss k) vs (addEs ss.length (pairsTo fE ss k))) (fun i _ => ss.length - (intOf i).toNat)
  case atStart => exact ⟨0, _, by omega, rfl, G0⟩
  case round =>
    obtain ⟨k, vs, hk, rfl, hB⟩ := hrel
    have HB := Lib.hid hB
    have bw : Below w.heap.size w wr := b1.trans (hB.bel.mono b1.size)
    by_cases hlt : k < ss.length
    · have hSr := HS.out.below bw (Nat.le_refl _)
      have d0 := hSr.c0 k hlt
      obtain ⟨A', c', d1', hA'⟩ := HS.out.c1 k hlt
      have d1 := cell_keep bw (Nat.le_refl _) d1'
      have lA : blk A < wr.heap.size := World.block_lt_of_cell? _ _ d0
      have hfs := firstTo_succ gE ss k hlt
      have hps := pairsTo_succ fE ss k hlt
      have hvs := hto.out _ (List.getElem_mem hlt)
      have hpl := pairsTo_len fE ss k hk
      have hal := arcsOf_take ss k hlt
      have hal2 := HL.out (k + 1)
      have kc := hB.fb.cell k
      rw [icellsA_get _ _ (by rw [firstTo_len _ _ _ hk]; exact hlt)] at kc
      have kf := hB.fb.froz; have kl := hB.fb.lt
      generalize ss[k] = s at *
      have HA : Hid (ArcsAt w A' s.arcs) := Lib.hid hA'
      have rdA := hA'.rdy
      have i0 : (0 : Int) ≤ ↑k := by omega
      have i1 : (↑k : Int) < ↑ss.length := by omega
      have hx5 : (pairsTo fE ss k).length + s.arcs.length ≤ 400 := by omega
      have hsa : s.arcs.length ≤ 400 := by omega
      have HFS := Lib.hid hfs; have HPS := Lib.hid hps; have HVS := Lib.hid hvs
      clear hSr hA' d1' hfs hps hvs hpl hal hal2 hB
      obtain ⟨wo, rfl⟩ : ∃ wo : World, wo = wr := ⟨_, rfl⟩
      generalize (firstTo gE ss k).getD k 0 = x0 at *
      go_wp2_with fail
      have HB2 : Hid (EK w1 ((wo.setCell ⟨w1.heap.size, k, none⟩ (.int .i64 s.final)).alloc (.cells #[.int .i64 s.final, .slice A' s.arcs.length c'] 76)) (firstTo gE ss (k + 1)) vs (addEs ss.length (pairsTo fE ss k))) := Lib.hid (by
        have := (HB.out.setFirst k s.final).keep ((Below.refl _ _).alloc (Nat.le_refl _) (.cells #[.int .i64 s.final, .slice A' s.arcs.length c'] 76))
        rw [HFS.out]; exact this)
      generalize (wo.setCell ⟨w1.heap.size, k, none⟩ (.int .i64 s.final)).alloc (.cells #[.int .i64 s.final, .slice A' s.arcs.length c'] 76) = w6 at *
      clear d0 d1 kc kf kl
      go_loopw [40] (fun i wr => ∃ (t : Nat) (vs' : List Value), t ≤ s.arcs.length ∧ i = .int .i64 t ∧ EK w1 wr (firstTo gE ss (k + 1)) vs' (addEs ss.length (pairsTo fE ss k ++ (s.arcs.take t).map (fE k)))) (fun i _ => s.arcs.length - (intOf i).toNat)
      case atStart => exact ⟨0, vs, by omega, rfl, by simpa using HB2.out⟩
      case round =>
        obtain ⟨t, vs', ht, rfl, hB⟩ := hrel
        have HBt := Lib.hid hB
        by_cases hlt2 : t < s.arcs.length
        · have bwr : Below w.heap.size w wr := b1.trans (hB.bel.mono b1.size)
          have hAr := HA.out.below bwr (Nat.le_refl _)
          have f0 := hAr.c0 t hlt2; have f1 := hAr.c1 t hlt2; have f2 := hAr.c2 t hlt2; have f3 := hAr.c3 t hlt2
          have hva := HVS.out _ (List.getElem_mem hlt2)
          have hsn := addEs_snoc ss.length (pairsTo fE ss k ++ (s.arcs.take t).map (fE k)) (fE k s.arcs[t])
          rw [List.append_assoc, ← List.map_singleton, ← List.map_append, ← List.take_succ_eq_append_getElem hlt2] at hsn
          have hlen := addEs_len ss.length (pairsTo fE ss k ++ (s.arcs.take t).map (fE k))
          generalize s.arcs[t] = a at *
          obtain ⟨q, hp⟩ : ∃ p : Nat, a.to = p := ⟨a.to.toNat, by omega⟩
          have hp2 : a.to.toNat = q := by omega
          have hpn : q < ss.length := by omega
          rw [hp] at f3
          skip
          have hqn : q < ss.length := by omega
          have hrq := addEs_row ss.length (pairsTo fE ss k ++ (s.arcs.take t).map (fE k)) q
          simp only [List.length_append, List.length_map, List.length_take] at hrq
          generalize addEs ss.length (pairsTo fE ss k ++ (s.arcs.take t).map (fE k)) = rt at *
          have hqr : q < rt.length := by rw [hlen]; exact hqn
          have hgd : rt.getD q [] = rt[q] := by simp [List.getD_eq_getElem?_getD, hqr]
          simp only [addE, fE, hp2] at hsn
          skip
          rw [hgd] at hsn hrq
          have hqv : q < vs'.length := by rw [hB.grid.len]; exact hqr
          obtain ⟨A2, c2, hv2, hc2, hc3⟩ := hB.grid.form q hqr
          have hcell := hB.grid.cell q hqr
          rw [hv2] at hcell
          have hv3 : vs'[q]'hqv = .slice A2 rt[q].length c2 := hv2
          have hown := hB.grid.own q hqr hqv
          rw [hv3] at hown
          have HSN := Lib.hid hsn; have HOWN := Lib.hid hown; have HV3 := Lib.hid hv3
          have lA' := World.block_lt_of_cell? _ _ f0
          have lG := World.block_lt_of_cell? _ _ hcell
          have ho0 := hB.grid.outer.froz
          have hrl5 : rt[q].length ≤ 800 := by omega
          have q0 : (0 : Int) ≤ ↑q := by omega
          have q1 : (↑q : Int) < ↑ss.length := by omega
          clear hAr hva hsn hlen hrq hgd hown hB hv2 hv3 
          obtain ⟨wi, rfl⟩ : ∃ wx : World, wx = wr := ⟨_, rfl⟩
          have HB7 := Lib.hid (HBt.out.keep ((Below.refl _ _).alloc (Nat.le_refl _) (.cells #[.int .i64 a.inn, .int .i64 a.out, .int .i64 a.wt, .int .i64 q] 78)))
          have A7 : Blk (wi.alloc (.cells #[.int .i64 a.inn, .int .i64 a.out, .int .i64 a.wt, .int .i64 q] 78)) wi.heap.size #[.int .i64 a.inn, .int .i64 a.out, .int .i64 a.wt, .int .i64 q] 78 := Blk.new _ _ _
          have O7 := Lib.hid (own_below HOWN.out ((Below.refl _ _).alloc (Nat.le_refl _) (.cells #[.int .i64 a.inn, .int .i64 a.out, .int .i64 a.wt, .int .i64 q] 78)) (Nat.le_refl _))
          have c7 := cell_keep ((Below.refl _ _).alloc (Nat.le_refl _) (.cells #[.int .i64 a.inn, .int .i64 a.out, .int .i64 a.wt, .int .i64 q] 78)) (Nat.le_refl _) hcell
          go_upto_region 13 with fail
          generalize wi.alloc (.cells #[.int .i64 a.inn, .int .i64 a.out, .int .i64 a.wt, .int .i64 q] 78) = w7 at *
          have k7 := A7.cell; have l7 := A7.lt
          have f7 := HB7.out.grid.outer.froz
          have lG7 := World.block_lt_of_cell? _ _ c7
          have lGi : w1.heap.size + 1 < wi.heap.size := lG
          clear ho0 hcell lG f0 f1 f2 f3 lA'
          have K8 : Hid (w7.cell? ⟨wi.heap.size, 2, none⟩ = some (.int .i64 a.wt)) := Lib.hid (by simpa using k7 2)
          have K9 : Hid (w7.cell? ⟨wi.heap.size, 3, none⟩ = some (.int .i64 q)) := Lib.hid (by simpa using k7 3)
          have K10 := Lib.hid c7
          refine wp_region_noPanic ?_
          refine wp_region_last_drew (fun w' => w'.cell? ⟨wi.heap.size, 2, none⟩ = some (.int .i64 a.wt) ∧ w'.cell? ⟨wi.heap.size, 3, none⟩ = some (.int .i64 q) ∧ w'.cell? ⟨w1.heap.size + 1, q, none⟩ = some (.slice A2 rt[q].length c2)) (by kernel_rfl) (by simp only [List.back?_toArray, List.getLast?_cons_cons, List.getLast?_singleton]; rfl) (by simp only [List.pop_toArray, List.dropLast_cons_cons, List.dropLast_singleton]; rfl) (by kernel_rfl) ⟨K8.out, K9.out, K10.out⟩ (fun hHeld => ?_)
          refine wpAnyH_take (i := 0) (v := ?v0) (by simp only [List.getElem?_toArray, List.getElem?_cons_zero]; rfl) (by kernel_rfl) (by kernel_rfl) (by kernel_rfl) (fun _ _ _ h => h) (Or.inl ⟨by rfl, ?h0⟩) hHeld ?r0
          case h0 => intro w hSw; (try dsimp only at hSw); go_simp; with_reducible rfl
          simp only [Act.put, List.setIfInBounds_toArray, List.set_cons_zero, List.set_cons_succ]
          refine wpAnyH_take (i := 1) (v := ?v1) (by simp only [List.getElem?_toArray, List.getElem?_cons_succ, List.getElem?_cons_zero]; rfl) (by kernel_rfl) (by kernel_rfl) (by kernel_rfl) (fun _ _ _ h => h) (Or.inl ⟨by rfl, ?h1⟩) hHeld ?r1
          case h1 => intro w hSw; (try dsimp only at hSw); go_simp; with_reducible rfl
          simp only [Act.put, List.setIfInBounds_toArray, List.set_cons_zero, List.set_cons_succ]
          refine wpAnyH_take (i := 2) (v := ?v2) (by simp only [List.getElem?_toArray, List.getElem?_cons_succ, List.getElem?_cons_zero]; rfl) (by kernel_rfl) (by kernel_rfl) (by kernel_rfl) (fun _ _ _ h => h) (Or.inl ⟨by rfl, ?h2⟩) hHeld ?r2
          case h2 => intro w hSw; (try dsimp only at hSw); go_simp; with_reducible rfl
          simp only [Act.put, List.setIfInBounds_toArray, List.set_cons_zero, List.set_cons_succ]
          refine wpAnyH_take (i := 3) (v := ?v3) (by simp only [List.getElem?_toArray, List.getElem?_cons_succ, List.getElem?_cons_zero]; rfl) (by kernel_rfl) (by kernel_rfl) (by kernel_rfl) (fun _ _ _ h => h) (Or.inl ⟨by rfl, ?h3⟩) hHeld ?r3
          case h3 => intro w hSw; (try dsimp only at hSw); go_simp; with_reducible rfl
          simp only [Act.put, List.setIfInBounds_toArray, List.set_cons_zero, List.set_cons_succ]
          refine wpAnyH_take (i := 4) (v := ?v4) (by simp only [List.getElem?_toArray, List.getElem?_cons_succ, List.getElem?_cons_zero]; rfl) (by kernel_rfl) (by kernel_rfl) (by kernel_rfl) (fun _ _ _ h => h) (Or.inl ⟨by rfl, ?h4⟩) hHeld ?r4
          case h4 => intro w hSw; (try dsimp only at hSw); go_simp; with_reducible rfl
          simp only [Act.put, List.setIfInBounds_toArray, List.set_cons_zero, List.set_cons_succ]
          refine wpAnyH_take (i := 5) (v := ?v5) (by simp only [List.getElem?_toArray, List.getElem?_cons_succ, List.getElem?_cons_zero]; rfl) (by kernel_rfl) (by kernel_rfl) (by kernel_rfl) (fun _ _ _ h => h) (Or.inl ⟨by rfl, ?h5⟩) hHeld ?r5
          case h5 => intro w hSw; (try dsimp only at hSw); go_simp; with_reducible rfl
          simp only [Act.put, List.setIfInBounds_toArray, List.set_cons_zero, List.set_cons_succ]
          refine wpAnyH_take (i := 6) (v := ?v6) (by simp only [List.getElem?_toArray, List.getElem?_cons_succ, List.getElem?_cons_zero]; rfl) (by kernel_rfl) (by kernel_rfl) (by kernel_rfl) (fun _ _ _ h => h) (Or.inl ⟨by rfl, ?h6⟩) hHeld ?r6
          case h6 => intro w hSw; (try dsimp only at hSw); go_simp; with_reducible rfl
          simp only [Act.put, List.setIfInBounds_toArray, List.set_cons_zero, List.set_cons_succ]
          refine wpAnyH_take (i := 7) (v := ?v7) (by simp only [List.getElem?_toArray, List.getElem?_cons_succ, List.getElem?_cons_zero]; rfl) (by kernel_rfl) (by kernel_rfl) (by kernel_rfl) (fun _ _ _ h => h) (Or.inl ⟨by rfl, ?h7⟩) hHeld ?r7
          case h7 => intro w hSw; (try dsimp only at hSw); go_simp; with_reducible rfl
          simp only [Act.put, List.setIfInBounds_toArray, List.set_cons_zero, List.set_cons_succ]
          refine wpAnyH_take (i := 8) (v := ?v8) (by simp only [List.getElem?_toArray, List.getElem?_cons_succ, List.getElem?_cons_zero]; rfl) (by kernel_rfl) (by kernel_rfl) (by kernel_rfl) (fun _ _ _ h => h) (Or.inl ⟨by rfl, ?h8⟩) hHeld ?r8
          case h8 => intro w hSw; (try dsimp only at hSw); go_simp; with_reducible rfl
          simp only [Act.put, List.setIfInBounds_toArray, List.set_cons_zero, List.set_cons_succ]
          refine wpAnyH_take (i := 9) (v := ?v9) (by simp only [List.getElem?_toArray, List.getElem?_cons_succ, List.getElem?_cons_zero]; rfl) (by kernel_rfl) (by kernel_rfl) (by kernel_rfl) (fun _ _ _ h => h) (Or.inl ⟨by rfl, ?h9⟩) hHeld ?r9
          case h9 => intro w hSw; (try dsimp only at hSw); go_simp; with_reducible rfl
          simp only [Act.put, List.setIfInBounds_toArray, List.set_cons_zero, List.set_cons_succ]
          refine wpAnyH_take (i := 10) (v := ?v10) (by simp only [List.getElem?_toArray, List.getElem?_cons_succ, List.getElem?_cons_zero]; rfl) (by kernel_rfl) (by kernel_rfl) (by kernel_rfl) (fun _ _ _ h => h) (Or.inl ⟨by rfl, ?h10⟩) hHeld ?r10
          case h10 => intro w hSw; (try dsimp only at hSw); go_simp; with_reducible rfl
          simp only [Act.put, List.setIfInBounds_toArray, List.set_cons_zero, List.set_cons_succ]
          refine wpAnyH_take (i := 11) (v := ?v11) (by simp only [List.getElem?_toArray, List.getElem?_cons_succ, List.getElem?_cons_zero]; rfl) (by kernel_rfl) (by kernel_rfl) (by kernel_rfl) (fun _ _ _ h => h) (Or.inl ⟨by rfl, ?h11⟩) hHeld ?r11
          case h11 => intro w hSw; (try dsimp only at hSw); go_simp; with_reducible rfl
          simp only [Act.put, List.setIfInBounds_toArray, List.set_cons_zero, List.set_cons_succ]
          refine wpAnyH_ready (rs := [12]) (by kernel_rfl) (by simp) (AllReadyH.cons (by simp only [List.getElem?_toArray, List.getElem?_cons_succ, List.getElem?_cons_zero]; rfl) (fun K hK => ?s9) AllReadyH.nil)
          go_simp
          refine hK.out _ _ ⟨cell_keep (by repeat' (first | exact Below.refl _ _ | assumption | refine Below.drew ?_ | refine Below.alloc ?_ (by first | omega | (simp; done) | (simp; omega)) _ | refine Below.setCell ?_ (by first | omega | (simp; done) | (simp; omega)) _)) (Nat.le_refl _) K8.out, cell_keep (by repeat' (first | exact Below.refl _ _ | assumption | refine Below.drew ?_ | refine Below.alloc ?_ (by first | omega | (simp; done) | (simp; omega)) _ | refine Below.setCell ?_ (by first | omega | (simp; done) | (simp; omega)) _)) (Nat.le_refl _) K9.out, cell_keep (by repeat' (first | exact Below.refl _ _ | assumption | refine Below.drew ?_ | refine Below.alloc ?_ (by first | omega | (simp; done) | (simp; omega)) _ | refine Below.setCell ?_ (by first | omega | (simp; done) | (simp; omega)) _)) (Nat.le_refl _) K10.out⟩ (fun hHeld => ?_)
          clear hK K
          refine wpAnyH_ready (rs := [13]) (by kernel_rfl) (by simp) (AllReadyH.cons (by simp only [List.getElem?_toArray, List.getElem?_cons_succ, List.getElem?_cons_zero]; rfl) (fun K hK => ?s10) AllReadyH.nil)
          refine step_app1 (by rfl) _ _ (by rfl) eltEdge (w1.heap.size + 2) (.slice A2 rt[q].length c2) _ _ (by rfl) (O7.out.alloc _) w7.heap.size #[.int .i64 k, .int .i64 a.wt] (heap_alloc_new w7 _) (by rfl) (by rfl) (by simp [Value.oneCell']) (by omega) (by omega) (by simp; omega) ?_; intro g3 cap w8 ho8 hg8 hat8 hlt8; have z1 := hg8.cell (cell_keep (by repeat' (first | exact Below.refl _ _ | assumption | refine Below.drew ?_ | refine Below.alloc ?_ (by first | omega | (simp; done) | (simp; omega)) _ | refine Below.setCell ?_ (by first | omega | (simp; done) | (simp; omega)) _)) (Nat.le_refl _) K8.out) (own_lt HOWN.out (Nat.le_refl _)).symm; have z2 := hg8.cell (cell_keep (by repeat' (first | exact Below.refl _ _ | assumption | refine Below.drew ?_ | refine Below.alloc ?_ (by first | omega | (simp; done) | (simp; omega)) _ | refine Below.setCell ?_ (by first | omega | (simp; done) | (simp; omega)) _)) (Nat.le_refl _) K9.out) (own_lt HOWN.out (Nat.le_refl _)).symm; have z3 := hg8.cell (cell_keep (by repeat' (first | exact Below.refl _ _ | assumption | refine Below.drew ?_ | refine Below.alloc ?_ (by first | omega | (simp; done) | (simp; omega)) _ | refine Below.setCell ?_ (by first | omega | (simp; done) | (simp; omega)) _)) (Nat.le_refl _) K10.out) (own_base HOWN.out (b := w1.heap.size + 1) (by omega)).symm; have z4 := (Blk.grown (Blk.step HB7.out.grid.outer (by repeat' (first | exact Below.refl _ _ | assumption | refine Below.drew ?_ | refine Below.alloc ?_ (by first | omega | (simp; done) | (simp; omega)) _ | refine Below.setCell ?_ (by first | omega | (simp; done) | (simp; omega)) _))) hg8 (own_base HOWN.out (b := w1.heap.size + 1) (by omega)).symm).froz q
          refine hK.out _ _ ⟨z1, z2, z3⟩ (fun hHeld => ?_)
          clear hK K
          simp only [Act.put, List.setIfInBounds_toArray, List.set_cons_zero, List.set_cons_succ]
          refine wpAnyH_take (i := 14) (v := ?v14) (by simp only [List.getElem?_toArray, List.getElem?_cons_succ, List.getElem?_cons_zero]; rfl) (by kernel_rfl) (by kernel_rfl) (by kernel_rfl) (fun _ _ _ h => h) (Or.inl ⟨by rfl, ?h14⟩) hHeld ?r14
          case h14 => intro w hSw; (try dsimp only at hSw); go_simp; with_reducible rfl
          simp only [Act.put, List.setIfInBounds_toArray, List.set_cons_zero, List.set_cons_succ]
          refine wpAnyH_done (by kernel_rfl) ?_ _
          show Oper.wp _ _ _ _ _ _
          go_simp
          refine NoPanic.normal ?_
          clear z1 z2 z3 z4
          have hput : ∃ vs2, EK w1 (w8.setCell ⟨w1.heap.size + 1, q, none⟩ (.slice (some ⟨g3, 0, none⟩) (rt[q].length + 1) cap)) (firstTo gE ss (k + 1)) vs2 (rt.set q (rt[q] ++ [(k, a.wt)])) := by
            have h8 : EK w1 (w7.alloc (.cells #[.int .i64 k, .int .i64 a.wt] 196)).drew (firstTo gE ss (k + 1)) vs' rt := HB7.out.keep (by repeat' (first | exact Below.refl _ _ | assumption | refine Below.drew ?_ | refine Below.alloc ?_ (by first | omega | (simp; done) | (simp; omega)) _ | refine Below.setCell ?_ (by first | omega | (simp; done) | (simp; omega)) _))
            refine ⟨_, h8.rowApp q hqr (k, a.wt) rfl (by rw [HV3.out]; exact hg8) ho8 (fun b hb => ?_)⟩
            rw [HV3.out]
            simp only [Value.ownBlock, Option.some.injEq] at hb
            subst hb
            exact hat8.imp id (fun h => by omega)
          have HPUT := Lib.hid hput
          clear hput
          go_wp2_with fail
          go_roundw
          case rel =>
            obtain ⟨vs2, h2⟩ := HPUT.out
            exact ⟨t + 1, vs2, by omega, by go_num, by rw [HSN.out]; exact h2⟩
          case measure => simp [intOf]; omega
        · have hte : s.arcs.take t = s.arcs := List.take_of_length_le (by omega)
          rw [hte, ← HPS.out] at hB
          have HBn := Lib.hid hB
          clear hB hte HBt
          go_wp2_with fail
          go_roundw
          case rel => exact ⟨k + 1, vs', by omega, by go_num, HBn.out⟩
          case measure => simp [intOf]; omega
    · have hke : k = ss.length := by omega
      rw [hke, ← HEI.out, firstTo_all] at hB
      have H1 := Lib.hid hB
      have hM := M1.out.below hB.bel l1
      have hEl : E.length = ss.length := HOK.out.el
      have hE2 := Lib.hid (fun l (hl : l ∈ E) => (by
        obtain ⟨q, hq, rfl⟩ := List.getElem_of_mem hl
        have h1 := addEs_row ss.length (pairsTo fE ss ss.length) q
        rw [← HEI.out, pairsTo_len _ _ _ (Nat.le_refl _), List.take_length] at h1
        have : E.getD q [] = E[q] := by simp [List.getD_eq_getElem?_getD, hq]
        rw [this] at h1
        unfold arcsOf at *
        omega : l.length ≤ 1000))
      have HEL := Lib.hid hEl
      have bw2 : Below w.heap.size w wr := b1.trans (hB.bel.mono b1.size)
      have H2 := H1
      have hfi : first = ss.map gE := HFI.out
      rw [← hfi] at H2
      have HFR := Lib.hid (HOK.out.fl)
      clear hB HB hfi hEl hM
      go_wp2_with fail
      refine (far_any _ ss.length (some ⟨w1.heap.size, 0, none⟩) (some ⟨w1.heap.size + 1, 0, none⟩) ss.length ss.length first E HOK.out (by omega) hE2.out (H2.out.rd HFR.out) H2.out.edges HW.out).mono ?_
      rintro e w5 ⟨d, rfl, hd, hdl, hdist, b5⟩
      have HD := Lib.hid hd; have HDL := Lib.hid hdl; have HDI := Lib.hid hdist
      have hs5 := bw2.size
      have b6 := bw2.trans (b5.mono hs5)
      clear hd hdl hdist b5
      go_wp2_with fail
      go_ret2
      exact ⟨_, rfl, ⟨_, d, rfl, HD.out, hs5, HDL.out, HDI.out⟩, b6⟩
end Go.Proofs.YtkmnacchiagipaaDoor

namespace Go.Proofs.YtkmnacchiagipaaDoor
open Go.RowKit

/-- weights are small -/
def Small (m : MachL) : Prop := ∀ s ∈ m.states, (s.final = 1000000001 ∨ s.final ≤ 1000000) ∧ ∀ a ∈ s.arcs, a.wt ≤ 1000000
theorem small_made (r : RawL) (k : Int) (full : Bool) : Small (mkMach r k full) := by
  intro s hs
  unfold mkMach mkStates at hs
  obtain ⟨i, -, rfl⟩ := List.mem_map.1 hs
  cases h : r.nodes[i]? with
  | none => simp [mkState]
  | some x =>
    simp only [mkState]
    refine ⟨?_, fun a ha => ?_⟩
    · unfold mkFinal; split
      · have := pick_hi x.final 10 (by omega); omega
      · exact .inl rfl
    · unfold mkArcs at ha
      obtain ⟨e, -, rfl⟩ := List.mem_map.1 ha
      have := pick_hi e.wt 10 (by omega)
      simp only [mkArc]; omega

theorem from_small' {m : MachL} (hv : Valid m) (hs : Small m) : ∀ q c, Way (fromFirst m) (fromE m) q c → ∃ c', Way (fromFirst m) (fromE m) q c' ∧ c' ≤ 100000000 := by
  intro q c h
  have hn := hv.size
  obtain ⟨c', hc, hl⟩ := way_small (F := 0) (W := 1000000) (From_ok hv) (fun x hx => by
    unfold fromFirst at hx
    split at hx
    · rcases List.mem_or_eq_of_mem_set hx with h | h
      · obtain ⟨s, -, rfl⟩ := List.mem_map.1 h; exact .inl rfl
      · right; omega
    · obtain ⟨s, -, rfl⟩ := List.mem_map.1 hx; exact .inl rfl) (fun l hl e he => by
    obtain ⟨q, hq, rfl⟩ := List.getElem_of_mem hl
    have hg : (fromE m).getD q [] = (fromE m)[q] := by simp [List.getD_eq_getElem?_getD, hq]
    rw [← hg] at he
    obtain ⟨p, hp, a, ha, e⟩ := (From_mem hv q _).1 he
    unfold fF at e
    injection e with _ e
    subst e
    exact (hs _ (List.getElem_mem hp)).2 a ha) (by omega) h
  exact ⟨c', hc, by omega⟩
theorem from_small {m : MachL} (hv : Valid m) (hs : Small m) : ∀ q c, Way (fromFirst m) (fromE m) q c → ∃ c', Way (fromFirst m) (fromE m) q c' ∧ c' ≤ 1000000000 := fun q c h => by
  obtain ⟨c', h1, h2⟩ := from_small' hv hs q c h
  exact ⟨c', h1, by omega⟩
theorem ends_small' {m : MachL} (hv : Valid m) (hs : Small m) : ∀ q c, Way (endsFirst m) (endsE m) q c → ∃ c', Way (endsFirst m) (endsE m) q c' ∧ c' ≤ 100000000 := by
  intro q c h
  have hn := hv.size
  obtain ⟨c', hc, hl⟩ := way_small (F := 1000000) (W := 1000000) (Ends_ok hv) (fun x hx => by
    obtain ⟨s, hss, rfl⟩ := List.mem_map.1 hx
    exact (hs s hss).1) (fun l hl e he => by
    obtain ⟨q, hq, rfl⟩ := List.getElem_of_mem hl
    have hg : (endsE m).getD q [] = (endsE m)[q] := by simp [List.getD_eq_getElem?_getD, hq]
    rw [← hg] at he
    obtain ⟨p, hp, a, ha, e⟩ := (Ends_mem hv q _).1 he
    unfold fE at e
    injection e with _ e
    subst e
    exact (hs _ (List.getElem_mem hp)).2 a ha) (by omega) h
  exact ⟨c', hc, by omega⟩
theorem ends_small {m : MachL} (hv : Valid m) (hs : Small m) : ∀ q c, Way (endsFirst m) (endsE m) q c → ∃ c', Way (endsFirst m) (endsE m) q c' ∧ c' ≤ 1000000000 := fun q c h => by
  obtain ⟨c', h1, h2⟩ := ends_small' hv hs q c h
  exact ⟨c', h1, by omega⟩

/-- distances are small -/
theorem dist_small {first : List Int} {E : Edges} (hs : ∀ q c, Way first E q c → ∃ c', Way first E q c' ∧ c' ≤ 100000000) {q : Nat} {d : Int} (h : IsDist first E q d) : (d = 1000000001 ∧ ∀ c, ¬ Way first E q c) ∨ (0 ≤ d ∧ d ≤ 100000000 ∧ Way first E q d ∧ ∀ c, Way first E q c → d ≤ c) := by
  rcases h with h | ⟨h1, h2, h3, h4⟩
  · exact .inl h
  · obtain ⟨c', hc, hl⟩ := hs _ _ h3
    exact .inr ⟨h1, by have := h4 _ hc; omega, h3, h4⟩

/-- ways from the start, in terms of arcs -/
theorem from_step {m : MachL} (hv : Valid m) {q : Nat} {c : Int} (h : Way (fromFirst m) (fromE m) q c) {hq : q < m.states.length} {a : ArcL} (ha : a ∈ m.states[q].arcs) : Way (fromFirst m) (fromE m) a.to.toNat (c + a.wt) :=
  .step h ((From_mem hv q _).2 ⟨q, hq, a, ha, rfl⟩)
theorem from_start {m : MachL} (hv : Valid m) (h0 : 0 ≤ m.start) : Way (fromFirst m) (fromE m) m.start.toNat 0 := by
  have h1 := hv.s1
  have hl : m.start.toNat < (fromFirst m).length := by rw [(From_ok hv).fl]; omega
  have e : (fromFirst m)[m.start.toNat] = 0 := by simp [fromFirst, h0]
  have := Way.start (first := fromFirst m) (E := fromE m) hl (by rw [e]; omega)
  rwa [e] at this
theorem from_first {m : MachL} {q : Nat} (hq : q < (fromFirst m).length) (hw : (fromFirst m)[q] ≠ 1000000001) : 0 ≤ m.start ∧ q = m.start.toNat ∧ (fromFirst m)[q] = 0 := by
  by_cases h0 : 0 ≤ m.start
  · have e0 : fromFirst m = (m.states.map gF).set m.start.toNat 0 := by unfold fromFirst; rw [if_pos h0]
    simp only [e0] at hw ⊢
    by_cases e : m.start.toNat = q
    · subst e; simp [h0]
    · rw [List.getElem_set_ne e] at hw; simp [gF] at hw
  · have e0 : fromFirst m = m.states.map gF := by unfold fromFirst; rw [if_neg h0]
    simp only [e0] at hw
    simp [gF] at hw
/-- how a way from the start ends -/
theorem from_inv {m : MachL} (hv : Valid m) {q : Nat} {c : Int} (h : Way (fromFirst m) (fromE m) q c) : (0 ≤ m.start ∧ q = m.start.toNat ∧ c = 0) ∨ ∃ p c', Way (fromFirst m) (fromE m) p c' ∧ ∃ hp : p < m.states.length, ∃ a ∈ m.states[p].arcs, a.to.toNat = q ∧ c = c' + a.wt := by
  cases h with
  | start hq hw => exact .inl (from_first hq hw)
  | @step p _ c' w h he =>
    right
    obtain ⟨p', hp, a, ha, e⟩ := (From_mem hv p _).1 he
    unfold fF at e
    injection e with e1 e2
    injection e2 with e2 e3
    subst e1; subst e2; subst e3
    exact ⟨p', c', h, hp, a, ha, rfl, rfl⟩
/-- a way to an end, in terms of arcs -/
theorem ends_step {m : MachL} (hv : Valid m) {p : Nat} {c : Int} {hp : p < m.states.length} {a : ArcL} (ha : a ∈ m.states[p].arcs) (h : Way (endsFirst m) (endsE m) a.to.toNat c) : Way (endsFirst m) (endsE m) p (c + a.wt) :=
  .step h ((Ends_mem hv _ _).2 ⟨p, hp, a, ha, rfl⟩)
theorem ends_start {m : MachL} {q : Nat} (hq : q < m.states.length) (hf : m.states[q].final ≠ 1000000001) : Way (endsFirst m) (endsE m) q m.states[q].final := by
  have := Way.start (first := endsFirst m) (E := endsE m) (q := q) (by simpa [endsFirst] using hq) (by simpa [endsFirst, gE] using hf)
  simpa [endsFirst, gE] using this
theorem ends_inv {m : MachL} (hv : Valid m) {q : Nat} {c : Int} (h : Way (endsFirst m) (endsE m) q c) : (∃ hq : q < m.states.length, m.states[q].final ≠ 1000000001 ∧ c = m.states[q].final) ∨ ∃ c', ∃ hq : q < m.states.length, ∃ a ∈ m.states[q].arcs, Way (endsFirst m) (endsE m) a.to.toNat c' ∧ c = c' + a.wt := by
  cases h with
  | start hq hw =>
    left
    have hq' : q < m.states.length := by simpa [endsFirst] using hq
    exact ⟨hq', by simpa [endsFirst, gE] using hw, by simp [endsFirst, gE]⟩
  | @step p _ c' w h he =>
    right
    obtain ⟨p', hp, a, ha, e⟩ := (Ends_mem hv p _).1 he
    unfold fE at e
    injection e with e1 e2
    injection e2 with e2 e3
    subst e1; subst e2; subst e3
    exact ⟨c', hp, a, ha, h, rfl⟩

/-- a way from the start and one to an end make a path -/
theorem way_join {m : MachL} (hv : Valid m) {q : Nat} {c1 : Int} (h : Way (fromFirst m) (fromE m) q c1) : ∀ c, Way (endsFirst m) (endsE m) q c → Way (endsFirst m) (endsE m) m.start.toNat (c1 + c) := by
  induction h with
  | start hq hw =>
    intro c hc
    obtain ⟨_, e, e0⟩ := from_first hq hw
    rw [e0]
    subst e
    simpa using hc
  | @step p q c1 w h he ih =>
    intro c hc
    obtain ⟨p', hp, a, ha, e⟩ := (From_mem hv p _).1 he
    unfold fF at e
    injection e with e1 e2
    injection e2 with e2 e3
    subst e1; subst e2; subst e3
    have := ih (c + a.wt) (ends_step hv ha hc)
    rw [show c1 + a.wt + c = c1 + (c + a.wt) by omega]
    exact this
/-- a path ends in a state -/
theorem way_split {m : MachL} (hv : Valid m) {p : Nat} {c : Int} (h : Way (endsFirst m) (endsE m) p c) : ∀ c1, Way (fromFirst m) (fromE m) p c1 → ∃ r c2, Way (fromFirst m) (fromE m) r c2 ∧ ∃ hr : r < m.states.length, m.states[r].final ≠ 1000000001 ∧ c1 + c = c2 + m.states[r].final := by
  induction h with
  | @start q hq hw =>
    intro c1 h1
    have hq' : q < m.states.length := by simpa [endsFirst] using hq
    exact ⟨q, c1, h1, hq', by simpa [endsFirst, gE] using hw, by simp [endsFirst, gE]⟩
  | @step p q c w h he ih =>
    intro c1 h1
    obtain ⟨p', hp, a, ha, e⟩ := (Ends_mem hv p _).1 he
    unfold fE at e
    injection e with e1 e2
    injection e2 with e2 e3
    subst e1; subst e2; subst e3
    obtain ⟨r, c2, h2, hr, hf, e⟩ := ih (c1 + a.wt) (from_step hv h1 ha)
    exact ⟨r, c2, h2, hr, hf, by omega⟩

def bothD (a b : Int) : Int := if a = 1000000001 ∨ b = 1000000001 then 1000000001 else a + b
end Go.Proofs.YtkmnacchiagipaaDoor

namespace Go.Proofs.YtkmnacchiagipaaDoor
open Go.RowKit

set_option maxRecDepth 100000 in
set_option maxHeartbeats 4000000 in
theorem inf_any (w : World) : Calls Tryd.prog 65 #[.int .i64 0] w fun e w' => e = .returned (.int .i64 1000000001) ∧ w = w' := by
  go_enter Tryd.func65, Tryd.ntmps65
  go_wp2_with fail
  go_ret; exact ⟨rfl, rfl⟩

set_option maxRecDepth 100000 in
set_option maxHeartbeats 4000000 in
theorem Least_any (v : Value) (m : MachL) (w : World) (hm : MachAt w v m) (hv : Valid m) (hs : ∀ q c, Way (endsFirst m) (endsE m) q c → ∃ c', Way (endsFirst m) (endsE m) q c' ∧ c' ≤ 1000000000) (h0 : 0 ≤ m.start) :
    Calls Tryd.prog 31 #[v] w fun e w' => ∃ d : Int, e = .returned (.tuple #[.int .i64 d, .int .i64 0]) ∧ IsDist (endsFirst m) (endsE m) m.start.toNat d ∧ Below w.heap.size w w' := by
  have CH := Lib.hid (fun W hb => Ends_any v m W (hm.below hb) hv hs)
  obtain ⟨A, c, rfl, hS⟩ := hm
  have hs1 := hv.s1
  obtain ⟨p, hpq⟩ : ∃ p : Nat, m.start = p := ⟨m.start.toNat, by omega⟩
  have hp2 : m.start.toNat = p := by omega
  have hpn : p < m.states.length := by omega
  rw [hp2]
  have HPQ := Lib.hid hpq
  clear hS hv hs hp2 hpq
  go_enter Tryd.func31, Tryd.ntmps31
  go_wp2_with fail
  refine (CH.out _ (by repeat' (first | exact Below.refl _ _ | assumption | refine Below.drew ?_ | refine Below.alloc ?_ (by first | omega | (simp; done) | (simp; omega)) _ | refine Below.setCell ?_ (by first | omega | (simp; done) | (simp; omega)) _))).mono ?_
  rintro e w1 ⟨sv, rfl, ⟨⟨b, d, rfl, hD, -, hdl, hdd⟩⟩, bel⟩
  have M1 : Hid (Blk w1 w.heap.size #[.int .i64 m.start, .slice A m.states.length c] 41) := Lib.hid (Blk.step (Blk.new' (by simp)) bel)
  have b1 : Below w.heap.size w w1 := ((Below.refl _ _).alloc (Nat.le_refl _) _).trans (bel.mono (by simp))
  have k1 := M1.out.cell; have l1 := M1.out.lt
  rw [HPQ.out] at k1
  have kd := hD.cell p
  rw [icellsA_get _ _ (by rw [hdl]; exact hpn)] at kd
  have ld := hD.lt
  have HDD := Lib.hid (hdd p hpn)
  generalize d.getD p 0 = x at *
  have p0 : (0 : Int) ≤ ↑p := by omega
  have p1 : (↑p : Int) < ↑m.states.length := by omega
  clear bel CH hD hdl hdd
  go_wp2_with fail
  go_ret2
  exact ⟨x, rfl, HDD.out, b1⟩
end Go.Proofs.YtkmnacchiagipaaDoor
