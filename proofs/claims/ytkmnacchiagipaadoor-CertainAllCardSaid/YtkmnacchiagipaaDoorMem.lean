/- Machines in memory: how they read, and rows of the call's own. -/
import Derived.Test.YtkmnacchiagipaaDoorSlices
namespace Go.Proofs.YtkmnacchiagipaaDoor
open Go.RowKit

structure ArcL where
  inn : Int
  out : Int
  wt : Int
  to : Int
  deriving DecidableEq
structure StateL where
  final : Int
  arcs : List ArcL
structure MachL where
  start : Int
  states : List StateL

def arcCells (a : ArcL) : List Value := [.int .i64 a.inn, .int .i64 a.out, .int .i64 a.wt, .int .i64 a.to]
def arcsCells (l : List ArcL) : List Value := l.flatMap arcCells
/-- the cells of states whose arcs' slices are vs -/
def stCells (p : Int × Value) : List Value := [.int .i64 p.1, p.2]
def statesCells (l : List (Int × Value)) : List Value := l.flatMap stCells

theorem arcsCells_len (l : List ArcL) : (arcsCells l).length = l.length * 4 := by
  induction l with
  | nil => rfl
  | cons a l ih => simp only [arcsCells, List.flatMap_cons, List.length_append, List.length_cons] at *; rw [ih]; simp [arcCells]; omega
theorem arcsCells_snoc (l : List ArcL) (a : ArcL) : arcsCells (l ++ [a]) = arcsCells l ++ arcCells a := by simp [arcsCells]
theorem statesCells_len (l : List (Int × Value)) : (statesCells l).length = l.length * 2 := by
  induction l with
  | nil => rfl
  | cons a l ih => simp only [statesCells, List.flatMap_cons, List.length_append, List.length_cons] at *; rw [ih]; simp [stCells]; omega
theorem statesCells_snoc (l : List (Int × Value)) (a : Int × Value) : statesCells (l ++ [a]) = statesCells l ++ stCells a := by simp [statesCells]

theorem flatMap_at {α β : Type} (f : α → List β) (m : Nat) (hf : ∀ a, (f a).length = m) (l : List α) : ∀ (i : Nat) (hi : i < l.length) (j : Nat), j < m → (l.flatMap f)[i * m + j]? = (f l[i])[j]? := by
  induction l with
  | nil => intro i hi; simp at hi
  | cons a l ih =>
    intro i hi j hj
    cases i with
    | zero => simp only [Nat.zero_mul, Nat.zero_add, List.flatMap_cons, List.getElem_cons_zero]; rw [List.getElem?_append_left (by rw [hf]; exact hj)]
    | succ i =>
      simp only [List.flatMap_cons, List.getElem_cons_succ]
      rw [List.getElem?_append_right (by rw [hf, Nat.add_mul]; omega), hf]
      rw [show (i + 1) * m + j - m = i * m + j by rw [Nat.add_mul]; omega]
      exact ih i (by simpa using hi) j hj

/-- a slice of arcs reads as l -/
structure ArcsAt (w : World) (A : Option Addr) (l : List ArcL) : Prop where
  rdy : Rdy A l.length
  c0 : ∀ i (h : i < l.length), w.cell? ⟨blk A, ofs A + i * 4, none⟩ = some (.int .i64 l[i].inn)
  c1 : ∀ i (h : i < l.length), w.cell? ⟨blk A, ofs A + i * 4 + 1, none⟩ = some (.int .i64 l[i].out)
  c2 : ∀ i (h : i < l.length), w.cell? ⟨blk A, ofs A + i * 4 + 2, none⟩ = some (.int .i64 l[i].wt)
  c3 : ∀ i (h : i < l.length), w.cell? ⟨blk A, ofs A + i * 4 + 3, none⟩ = some (.int .i64 l[i].to)

/-- a slice of states reads as ss -/
structure StatesAt (w : World) (A : Option Addr) (ss : List StateL) : Prop where
  rdy : Rdy A ss.length
  c0 : ∀ i (h : i < ss.length), w.cell? ⟨blk A, ofs A + i * 2, none⟩ = some (.int .i64 ss[i].final)
  c1 : ∀ i (h : i < ss.length), ∃ A' c, w.cell? ⟨blk A, ofs A + i * 2 + 1, none⟩ = some (.slice A' ss[i].arcs.length c) ∧ ArcsAt w A' ss[i].arcs

/-- a value reads as a machine -/
def MachAt (w : World) (v : Value) (m : MachL) : Prop := ∃ A c, v = .agg #[.int .i64 m.start, .slice A m.states.length c] ∧ StatesAt w A m.states

theorem cell_keep {w w' : World} {B : Nat} (hb : Below B w w') (hB : w.heap.size ≤ B) {a : Addr} {v : Value} (h : w.cell? a = some v) : w'.cell? a = some v := by
  rw [hb.cell (by have := World.block_lt_of_cell? _ _ h; omega)]; exact h
theorem ArcsAt.below {w w' : World} {A : Option Addr} {l : List ArcL} (h : ArcsAt w A l) {B : Nat} (hb : Below B w w') (hB : w.heap.size ≤ B) : ArcsAt w' A l :=
  ⟨h.rdy, fun i hi => cell_keep hb hB (h.c0 i hi), fun i hi => cell_keep hb hB (h.c1 i hi), fun i hi => cell_keep hb hB (h.c2 i hi), fun i hi => cell_keep hb hB (h.c3 i hi)⟩
theorem StatesAt.below {w w' : World} {A : Option Addr} {l : List StateL} (h : StatesAt w A l) {B : Nat} (hb : Below B w w') (hB : w.heap.size ≤ B) : StatesAt w' A l :=
  ⟨h.rdy, fun i hi => cell_keep hb hB (h.c0 i hi), fun i hi => by
    obtain ⟨A', c, h1, h2⟩ := h.c1 i hi
    exact ⟨A', c, cell_keep hb hB h1, h2.below hb hB⟩⟩
theorem MachAt.below {w w' : World} {v : Value} {m : MachL} (h : MachAt w v m) (hb : Below w.heap.size w w') : MachAt w' v m := by
  obtain ⟨A, c, hv, h⟩ := h
  exact ⟨A, c, hv, h.below hb (Nat.le_refl _)⟩

/-- rows of the call's own -/
def OwnArcs (w : World) (B : Nat) (v : Value) (l : List ArcL) : Prop := w.ownsRow B 78 4 v l.length (arcsCells l)
/-- the row of states, the slices of whose arcs are vs -/
structure OwnStV (w : World) (B : Nat) (v : Value) (vs : List Value) (ss : List StateL) : Prop where
  len : vs.length = ss.length
  row : w.ownsRow B 76 2 v ss.length (statesCells ((ss.map (·.final)).zip vs))
  arcs : ∀ i (h : i < ss.length) (h' : i < vs.length), OwnArcs w B vs[i] ss[i].arcs
def OwnSt (w : World) (B : Nat) (v : Value) (ss : List StateL) : Prop := ∃ vs : List Value, OwnStV w B v vs ss
def OwnMach (w : World) (B : Nat) (v : Value) (m : MachL) : Prop := ∃ sv, v = .agg #[.int .i64 m.start, sv] ∧ OwnSt w B sv m.states

theorem Rd.at' {w : World} {A : Option Addr} {n size : Nat} {xs : List Value} (h : Rd w A n size xs) {j : Nat} {u : Value} (hu : xs[j]? = some u) : w.cell? ⟨blk A, ofs A + j, none⟩ = some u := by
  have hj : j < xs.length := by
    rcases Nat.lt_or_ge j xs.length with h | h
    · exact h
    · rw [List.getElem?_eq_none h] at hu; cases hu
  rw [h.cell j hj]; rw [List.getElem?_eq_getElem hj] at hu; exact hu

theorem OwnArcs.at_ {w : World} {B : Nat} {A : Option Addr} {n c : Nat} {l : List ArcL} (h : OwnArcs w B (.slice A n c) l) : n = l.length ∧ ArcsAt w A l := by
  have hn : n = l.length := by
    obtain ⟨A', c', hv, -, -⟩ := own_form h
    simp at hv; exact hv.2.1
  subst hn
  have r := Rd.of_own h
  have q : ∀ i (hi : i < l.length) (j : Nat) (hj : j < 4), w.cell? ⟨blk A, ofs A + (i * 4 + j), none⟩ = (arcCells l[i])[j]? := by
    intro i hi j hj
    have e := flatMap_at arcCells 4 (fun _ => rfl) l i hi j hj
    have hs : (arcCells l[i])[j]? = some ((arcCells l[i])[j]'hj) := List.getElem?_eq_getElem hj
    rw [hs]
    exact r.at' (e.trans hs)
  exact ⟨rfl, r.rdy, fun i hi => q i hi 0 (by omega), fun i hi => q i hi 1 (by omega), fun i hi => q i hi 2 (by omega), fun i hi => q i hi 3 (by omega)⟩

theorem OwnSt.at_ {w : World} {B : Nat} {A : Option Addr} {n c : Nat} {ss : List StateL} (h : OwnSt w B (.slice A n c) ss) : n = ss.length ∧ StatesAt w A ss := by
  obtain ⟨vs, hl, ho, ha⟩ := h
  have hn : n = ss.length := by
    obtain ⟨A', c', hv, -, -⟩ := own_form ho
    simp at hv; exact hv.2.1
  subst hn
  have r := Rd.of_own ho
  have hz : ((ss.map (·.final)).zip vs).length = ss.length := by simp [hl]
  have q : ∀ i (hi : i < ss.length) (j : Nat) (hj : j < 2), w.cell? ⟨blk A, ofs A + (i * 2 + j), none⟩ = (stCells (ss[i].final, vs[i]'(by omega)))[j]? := by
    intro i hi j hj
    have e := flatMap_at stCells 2 (fun _ => rfl) ((ss.map (·.final)).zip vs) i (by omega) j hj
    simp only [List.getElem_zip, List.getElem_map] at e
    have hs : (stCells (ss[i].final, vs[i]'(by omega)))[j]? = some ((stCells (ss[i].final, vs[i]'(by omega)))[j]'hj) := List.getElem?_eq_getElem hj
    rw [hs]
    exact r.at' (e.trans hs)
  refine ⟨rfl, r.rdy, fun i hi => q i hi 0 (by omega), fun i hi => ?_⟩
  have h1 := ha i hi (by omega)
  obtain ⟨A', c', hv, -, -⟩ := own_form h1
  have h2 := q i hi 1 (by omega)
  simp only [stCells, List.getElem?_cons_succ, List.getElem?_cons_zero] at h2
  rw [hv] at h1 h2
  exact ⟨A', c', h2, (h1.at_).2⟩

theorem OwnMach.at_ {w : World} {B : Nat} {v : Value} {m : MachL} (h : OwnMach w B v m) : MachAt w v m := by
  obtain ⟨sv, rfl, h⟩ := h
  obtain ⟨vs, hl, ho, ha⟩ := h
  obtain ⟨A, c, rfl, -, -⟩ := own_form ho
  have := (OwnSt.at_ ⟨vs, ⟨hl, ho, ha⟩⟩).2
  exact ⟨A, c, rfl, this⟩

/-! ### rows are kept -/
theorem own_below {w w' : World} {base : Nat} {e : TypeId} {size n : Nat} {v : Value} {xs : List Value} (h : w.ownsRow base e size v n xs) {B : Nat} (hb : Below B w w') (hB : w.heap.size ≤ B) : w'.ownsRow base e size v n xs := by
  refine ⟨h.1, ?_⟩
  rcases h.2 with hn | ⟨g, cap, cur, rfl, hbg, hg, r⟩
  · exact .inl hn
  · have hlt : g < w.heap.size := (Array.getElem?_eq_some_iff.1 hg).1
    exact .inr ⟨g, cap, cur, rfl, hbg, by rw [hb.block g (by omega)]; exact hg, r⟩
theorem own_setCell {w : World} {base : Nat} {e : TypeId} {size n : Nat} {v : Value} {xs : List Value} (h : w.ownsRow base e size v n xs) {a : Addr} (ha : v.ownBlock ≠ some a.block) (u : Value) : (w.setCell a u).ownsRow base e size v n xs := by
  refine ⟨h.1, ?_⟩
  rcases h.2 with hn | ⟨g, cap, cur, rfl, hbg, hg, r⟩
  · exact .inl hn
  · refine .inr ⟨g, cap, cur, rfl, hbg, ?_, r⟩
    rw [Below.heap_setCell _ _ _ _ (by intro e; exact ha (by simp [Value.ownBlock, e]))]
    exact hg
theorem own_mono {w : World} {base base' : Nat} {e : TypeId} {size n : Nat} {v : Value} {xs : List Value} (h : w.ownsRow base e size v n xs) (hb : base' ≤ base) : w.ownsRow base' e size v n xs := by
  refine ⟨h.1, ?_⟩
  rcases h.2 with hn | ⟨g, cap, cur, rfl, hbg, r⟩
  · exact .inl hn
  · exact .inr ⟨g, cap, cur, rfl, by omega, r⟩
/-- rows of two types never share a block -/
theorem own_ne {w : World} {b1 b2 : Nat} {e1 e2 : TypeId} {s1 s2 n1 n2 : Nat} {v1 v2 : Value} {x1 x2 : List Value} (h1 : w.ownsRow b1 e1 s1 v1 n1 x1) (h2 : w.ownsRow b2 e2 s2 v2 n2 x2) (hne : e1 ≠ e2) : v1.ownBlock = none ∨ v1.ownBlock ≠ v2.ownBlock := by
  rcases h1.2 with ⟨rfl, _⟩ | ⟨g, cap, cur, rfl, _, hg, _⟩
  · left; rfl
  · right
    rcases h2.2 with ⟨rfl, _⟩ | ⟨g', cap', cur', rfl, _, hg', _⟩
    · simp [Value.ownBlock]
    · intro e
      simp [Value.ownBlock] at e
      subst e
      rw [hg] at hg'
      simp at hg'
      exact hne hg'.2
theorem own_lt {w : World} {base : Nat} {e : TypeId} {size n : Nat} {v : Value} {xs : List Value} (h : w.ownsRow base e size v n xs) {b : Nat} (hb : w.heap.size ≤ b) : v.ownBlock ≠ some b := by
  intro e; have := h.lt _ e; omega
theorem own_base {w : World} {base : Nat} {e : TypeId} {size n : Nat} {v : Value} {xs : List Value} (h : w.ownsRow base e size v n xs) {b : Nat} (hb : b < base) : v.ownBlock ≠ some b := by
  intro e; have := h.lt _ e; omega

section
variable {w w' : World} {B : Nat} {v : Value}
theorem OwnArcs.nil (w : World) (B : Nat) : OwnArcs w B (.slice none 0 0) [] := World.ownsRow_nil _ _ _ _
theorem OwnArcs.below {l : List ArcL} (h : OwnArcs w B v l) {C : Nat} (hb : Below C w w') (hC : w.heap.size ≤ C) : OwnArcs w' B v l := own_below h hb hC
theorem OwnArcs.grown {l : List ArcL} (h : OwnArcs w B v l) {row : Option Nat} (hg : w.grownBy w' row) (hne : v.ownBlock = none ∨ v.ownBlock ≠ row) : OwnArcs w' B v l := World.ownsRow.kept h hg hne
theorem OwnArcs.setCell {l : List ArcL} (h : OwnArcs w B v l) {a : Addr} (ha : v.ownBlock ≠ some a.block) (u : Value) : OwnArcs (w.setCell a u) B v l := own_setCell h ha u
theorem OwnArcs.mono {l : List ArcL} (h : OwnArcs w B v l) {B' : Nat} (hb : B' ≤ B) : OwnArcs w B' v l := own_mono h hb
theorem OwnStV.nil (w : World) (B : Nat) : OwnStV w B (.slice none 0 0) [] [] := ⟨rfl, World.ownsRow_nil _ _ _ _, fun i h => absurd h (by simp)⟩
theorem OwnSt.nil (w : World) (B : Nat) : OwnSt w B (.slice none 0 0) [] := ⟨[], OwnStV.nil w B⟩
theorem OwnStV.below {vs : List Value} {ss : List StateL} (h : OwnStV w B v vs ss) {C : Nat} (hb : Below C w w') (hC : w.heap.size ≤ C) : OwnStV w' B v vs ss :=
  ⟨h.len, own_below h.row hb hC, fun i hi hi' => (h.arcs i hi hi').below hb hC⟩
theorem OwnStV.mono {vs : List Value} {ss : List StateL} (h : OwnStV w B v vs ss) {B' : Nat} (hb : B' ≤ B) : OwnStV w B' v vs ss :=
  ⟨h.len, own_mono h.row hb, fun i hi hi' => (h.arcs i hi hi').mono hb⟩
theorem OwnStV.setCell {vs : List Value} {ss : List StateL} (h : OwnStV w B v vs ss) {a : Addr} (ha : a.block < B) (u : Value) : OwnStV (w.setCell a u) B v vs ss :=
  ⟨h.len, own_setCell h.row (own_base h.row ha) u, fun i hi hi' => (h.arcs i hi hi').setCell (own_base (h.arcs i hi hi') ha) u⟩
theorem OwnSt.below {ss : List StateL} (h : OwnSt w B v ss) {C : Nat} (hb : Below C w w') (hC : w.heap.size ≤ C) : OwnSt w' B v ss := by
  obtain ⟨vs, h⟩ := h; exact ⟨vs, h.below hb hC⟩
theorem OwnSt.mono {ss : List StateL} (h : OwnSt w B v ss) {B' : Nat} (hb : B' ≤ B) : OwnSt w B' v ss := by
  obtain ⟨vs, h⟩ := h; exact ⟨vs, h.mono hb⟩
theorem OwnMach.below {m : MachL} (h : OwnMach w B v m) {C : Nat} (hb : Below C w w') (hC : w.heap.size ≤ C) : OwnMach w' B v m := by
  obtain ⟨sv, hv, h⟩ := h
  exact ⟨sv, hv, h.below hb hC⟩
theorem OwnMach.mono {m : MachL} (h : OwnMach w B v m) {B' : Nat} (hb : B' ≤ B) : OwnMach w B' v m := by
  obtain ⟨sv, hv, h⟩ := h
  exact ⟨sv, hv, h.mono hb⟩
theorem OwnStV.form {vs : List Value} {ss : List StateL} (h : OwnStV w B v vs ss) : ∃ A c, v = .slice A ss.length c ∧ ss.length ≤ c ∧ c ≤ maxLen := own_form h.row
theorem OwnSt.form {ss : List StateL} (h : OwnSt w B v ss) : ∃ A c, v = .slice A ss.length c ∧ ss.length ≤ c ∧ c ≤ maxLen := by
  obtain ⟨vs, h⟩ := h; exact h.form
theorem OwnArcs.form {l : List ArcL} (h : OwnArcs w B v l) : ∃ A c, v = .slice A l.length c ∧ l.length ≤ c ∧ c ≤ maxLen := own_form h

/-- a state is appended -/
theorem OwnStV.app {vs : List Value} {ss : List StateL} (h : OwnStV w B v vs ss) (s : StateL) {av v' : Value} (ha : OwnArcs w B av s.arcs) (hg : w.grownBy w' v.ownBlock) {n : Nat} (hn : n = ss.length + 1)
    (hx : w'.ownsRow B 76 2 v' n (statesCells ((ss.map (·.final)).zip vs) ++ [.int .i64 s.final, av])) : OwnStV w' B v' (vs ++ [av]) (ss ++ [s]) := by
  refine ⟨by simp [h.len], ?_, fun i hi hi' => ?_⟩
  · rw [hn] at hx
    rw [show (List.map (·.final) (ss ++ [s])).zip (vs ++ [av]) = ((ss.map (·.final)).zip vs) ++ [(s.final, av)] by rw [List.map_append, List.zip_append (by simp [h.len])]; rfl]
    rw [statesCells_snoc]
    simpa [stCells] using hx
  · by_cases hlt : i < ss.length
    · rw [List.getElem_append_left hlt]
      rw [List.getElem_append_left (by have := h.len; omega)]
      exact (h.arcs i hlt (by have := h.len; omega)).grown hg (own_ne (h.arcs i hlt (by have := h.len; omega)) h.row (by decide))
    · have : i = ss.length := by simp at hi; omega
      subst this
      have e1 : (ss ++ [s])[ss.length] = s := by simp
      have e2 : (vs ++ [av])[ss.length] = av := by simp [← h.len]
      rw [e1, e2]
      exact ha.grown hg (own_ne ha h.row (by decide))
end

theorem eltArc : Elt Tryd.prog 74 78 (.agg #[.int .i64 0, .int .i64 0, .int .i64 0, .int .i64 0]) 4 32 := ⟨Tryd.underlying74, by kernel_rfl, rfl, by omega⟩
theorem eltState : Elt Tryd.prog 39 76 (.agg #[.int .i64 0, .slice none 0 0]) 2 32 := ⟨Tryd.underlying39, by kernel_rfl, rfl, by omega⟩
end Go.Proofs.YtkmnacchiagipaaDoor
