/- paper.read (memory): a machine whose last state's arcs grow in place. -/
import Derived.Test.YtajbfhdkghofbaaGreatDoorMemSet
import Derived.Test.YtajbfhdkghofbaaGreatDoorPaperRead
import Derived.Test.YtajbfhdkghofbaaGreatDoorRangeLines
namespace Go.Proofs.YtajbfhdkghofbaaGreatDoor
open Go.RowKit

theorem setArcs2 {w : World} {B g n c : Nat} {vs : List Value} {ss : List StateL} (hlen : vs.length = ss.length) (hrow : w.ownsRow B 51 2 (.slice (some ⟨g, 0, none⟩) n c) ss.length (statesCells ((ss.map (·.final)).zip vs))) (q : Nat) (hq : q < ss.length)
    (hoth : ∀ i (hi : i < ss.length) (hi' : i < vs.length), i ≠ q → OwnArcs w B vs[i] ss[i].arcs) {av : Value} {l : List ArcL} (ha : OwnArcs w B av l) :
    OwnStV (w.setCell ⟨g, q * 2 + 1, none⟩ av) B (.slice (some ⟨g, 0, none⟩) n c) (vs.set q av) (ss.set q ⟨ss[q].final, l⟩) := by
  have hz : q < ((ss.map (·.final)).zip vs).length := by simp [hlen]; exact hq
  obtain ⟨A', c', hv, -, -⟩ := own_form hrow
  obtain rfl : n = ss.length := by simp at hv; exact hv.2.1
  have hr := (hrow.stored (q * 2 + 1) av).1
  have ne : ∀ {v : Value} {l : List ArcL}, OwnArcs w B v l → v.ownBlock ≠ some g := fun {v l} k => by
    rcases own_ne k hrow (by decide) with e | e
    · rw [e]; simp
    · simpa [Value.ownBlock] using e
  refine ⟨by simp [hlen], ?_, fun i hi hi' => ?_⟩
  · rw [statesCells_set1 _ _ hz, zip_set_snd] at hr
    rw [final_set _ _ hq, List.length_set]
    exact hr
  · by_cases e : q = i
    · subst e
      simp only [List.getElem_set_self]
      exact ha.setCell (ne ha) _
    · rw [List.getElem_set_ne e]
      rw [List.getElem_set_ne e]
      have k := hoth i (by simpa using hi) (by simpa using hi') (fun h => e h.symm)
      exact k.setCell (ne k) _
theorem stepR_skip {x : List UInt8} {m : MachL} {ns : List Int} (hn : NumsOf ((wordsOf x).drop 1) ns) (h1 : ¬ ((wordsOf x).getD 0 [] = wStart ∧ ns.length = 1)) (h2 : ¬ ((wordsOf x).getD 0 [] = wState ∧ ns.length = 1)) (h3 : ¬ ((wordsOf x).getD 0 [] = wArc ∧ ns.length = 4 ∧ 0 < m.states.length)) : StepR x m m :=
  ⟨ns, hn, by rw [if_neg h1, if_neg h2, if_neg h3]⟩
theorem stepR_start {x : List UInt8} {m : MachL} {ns : List Int} (hn : NumsOf ((wordsOf x).drop 1) ns) (h1 : (wordsOf x).getD 0 [] = wStart ∧ ns.length = 1) : StepR x m { m with start := ns.getD 0 0 } :=
  ⟨ns, hn, by rw [if_pos h1]⟩
theorem stepR_state {x : List UInt8} {m : MachL} {ns : List Int} {v er : Int} (hn : NumsOf ((wordsOf x).drop 1) ns) (h1 : (wordsOf x).getD 0 [] = wState ∧ ns.length = 1) (hr : ReadR ((wordsOf x).getD 1 []) v er) : StepR x m { m with states := m.states ++ [⟨v, []⟩] } :=
  ⟨ns, hn, by rw [if_neg (fun h => absurd (h1.1.symm.trans h.1) (by decide)), if_pos h1]; exact ⟨v, er, hr, rfl⟩⟩
theorem stepR_arc {x : List UInt8} {m : MachL} {ns : List Int} (hn : NumsOf ((wordsOf x).drop 1) ns) (h1 : (wordsOf x).getD 0 [] = wArc ∧ ns.length = 4 ∧ 0 < m.states.length) : StepR x m { m with states := addArc m.states ⟨ns.getD 1 0, ns.getD 2 0, ns.getD 3 0, ns.getD 0 0⟩ } :=
  ⟨ns, hn, by rw [if_neg (fun h => absurd (h1.1.symm.trans h.1) (by decide)), if_neg (fun h => absurd (h1.1.symm.trans h.1) (by decide)), if_pos h1]⟩
/-- the last row lies apart from the others -/
def LastApart (us : List Value) (av : Value) : Prop := ∀ u ∈ us, u.ownBlock = none ∨ u.ownBlock ≠ av.ownBlock
theorem OwnStV.addArc {w w3 : World} {B g c : Nat} {us : List Value} {av v' : Value} {ss : List StateL} {s : StateL} {a : ArcL} {o : Obj}
    (h : OwnStV w B (.slice (some ⟨g, 0, none⟩) (ss.length + 1) c) (us ++ [av]) (ss ++ [s])) (la : LastApart us av) (hg : (w.alloc o).grownBy w3 av.ownBlock)
    (hx : w3.ownsRow B 54 4 v' (s.arcs.length + 1) (arcsCells s.arcs ++ arcCells a)) (hv : v'.ownBlock = av.ownBlock ∨ ∃ b, w.heap.size ≤ b ∧ v'.ownBlock = some b) :
    OwnStV (w3.setCell ⟨g, ss.length * 2 + 1, none⟩ v') B (.slice (some ⟨g, 0, none⟩) (ss.length + 1) c) (us ++ [v']) (ss ++ [⟨s.final, s.arcs ++ [a]⟩]) ∧ LastApart us v' := by
  have hul : us.length = ss.length := by have := h.len; simp at this; exact this
  have hlast : OwnArcs w B av s.arcs := by
    have := h.arcs ss.length (by simp) (by simp [hul])
    rw [List.getElem_append_right (by omega), List.getElem_append_right (by omega)] at this
    simpa [hul] using this
  have hoth : ∀ i (hi : i < ss.length) (hi' : i < us.length), OwnArcs w3 B us[i] ss[i].arcs := fun i hi hi' => by
    have k := h.arcs i (by simp; omega) (by simp; omega)
    rw [List.getElem_append_left hi, List.getElem_append_left hi'] at k
    exact (k.below ((Below.refl _ _).alloc (Nat.le_refl _) o) (Nat.le_refl _)).grown hg (la _ (List.getElem_mem hi'))
  have hrow : w3.ownsRow B 51 2 (.slice (some ⟨g, 0, none⟩) (ss.length + 1) c) (ss ++ [s]).length (statesCells (((ss ++ [s]).map (·.final)).zip (us ++ [av]))) := by
    refine World.ownsRow.kept (own_below h.row ((Below.refl _ _).alloc (Nat.le_refl _) o) (Nat.le_refl _)) hg ?_
    right
    intro e
    rcases own_ne hlast h.row (by decide) with e2 | e2
    · rw [e2] at e; cases e
    · exact e2 e.symm
  have ha : OwnArcs w3 B v' (s.arcs ++ [a]) := by
    unfold OwnArcs; rw [arcsCells_snoc, List.length_append]; exact hx
  have key := setArcs2 (w := w3) (B := B) (g := g) (n := ss.length + 1) (c := c) (vs := us ++ [av]) (ss := ss ++ [s]) (by simp [hul]) hrow ss.length (by simp) (fun i hi hi' hne => by
    simp at hi hi'
    rw [List.getElem_append_left (show i < ss.length by omega), List.getElem_append_left (show i < us.length by omega)]
    exact hoth i (by omega) (by omega)) ha
  refine ⟨?_, fun u hu => ?_⟩
  · have e1 : (us ++ [av]).set ss.length v' = us ++ [v'] := by rw [List.set_append_right _ _ (by omega)]; simp [hul]
    have e2 : (ss ++ [s]).set ss.length ⟨(ss ++ [s])[ss.length].final, s.arcs ++ [a]⟩ = ss ++ [⟨s.final, s.arcs ++ [a]⟩] := by rw [List.set_append_right _ _ (by omega)]; simp
    rw [e1, e2] at key
    exact key
  · rcases hv with e | ⟨b, hb, e⟩
    · rw [e]; exact la u hu
    · cases hu' : u.ownBlock with
      | none => exact .inl rfl
      | some k =>
        right
        rw [e]
        intro e3
        have e4 : k = b := by simpa using e3
        obtain ⟨i, hi, rfl⟩ := List.getElem_of_mem hu
        have k1 := h.arcs i (by simp; omega) (by simp; omega)
        rw [List.getElem_append_left (show i < ss.length by omega), List.getElem_append_left hi] at k1
        exact own_lt k1 (show w.heap.size ≤ b from hb) (by rw [hu', e4])
/-- a machine's rows abide what a loop over lines turns -/
theorem OwnStV.keptFrom {w w' : World} {B : Nat} {v : Value} {vs : List Value} {ss : List StateL} (h : OwnStV w B v vs ss) {row : Option Nat} (hg : w.grownBy w' row) (hr : ∀ r, row = some r → r < B ∨ ∃ o : Obj, w.heap[r]? = some o ∧ o.isCells = false) : OwnStV w' B v vs ss := by
  have key : ∀ {e size n : Nat} {v : Value} {xs : List Value}, w.ownsRow B e size v n xs → v.ownBlock = none ∨ v.ownBlock ≠ row := fun {e size n v xs} k => by
    cases hv : v.ownBlock with
    | none => exact .inl rfl
    | some j =>
      right
      intro e
      rcases hr j e.symm with h1 | h1
      · have := (k.lt j hv).1; omega
      · obtain ⟨o, ho, hc⟩ := own_cells k hv
        obtain ⟨o', ho', hc'⟩ := h1
        rw [ho] at ho'; cases ho'; rw [hc] at hc'; cases hc'
  exact ⟨h.len, h.row.kept hg (key h.row), fun i hi hi' => (h.arcs i hi hi').grown hg (key (h.arcs i hi hi'))⟩
/-- what the loop of read keeps: the result's box R, the machine's box B, and its rows -/
structure PRead (w w0 : World) (R B : Nat) (pre : List (List UInt8)) (W : World) (st : Int) (sv : Value) (vs : List Value) (ss : List StateL) : Prop where
  res : Blk W R #[.int .i64 0, .slice none 0 0] 27
  box : Blk W B #[.int .i64 st, sv] 27
  own : OwnStV W w0.heap.size sv vs ss
  la : ∀ us av, vs = us ++ [av] → LastApart us av
  rd : ReadsTo ⟨-1, []⟩ pre ⟨st, ss⟩
  bel : Below w.heap.size w W
  size : w0.heap.size ≤ W.heap.size
  len : ss.length ≤ pre.length
  alen : ∀ s ∈ ss, s.arcs.length ≤ pre.length
section
variable {w w0 W W' w3 : World} {R B Bs : Nat} {pre pre' : List (List UInt8)} {x : List UInt8} {st n : Int} {sv v' : Value} {vs us : List Value} {ss : List StateL} {o : Obj}
theorem PRead.keep (h : PRead w w0 R B pre W st sv vs ss) (hb : Below W.heap.size W W') : PRead w w0 R B pre W' st sv vs ss :=
  ⟨h.res.step hb, h.box.step hb, h.own.below hb (Nat.le_refl _), h.la, h.rd, h.bel.trans (hb.mono h.bel.size), Nat.le_trans h.size hb.size, h.len, h.alen⟩
theorem PRead.drew (h : PRead w w0 R B pre W st sv vs ss) : PRead w w0 R B pre W.drew st sv vs ss := h.keep (Below.refl _ _).drew
theorem PRead.step (h : PRead w w0 R B pre W st sv vs ss) (hb : Below W.heap.size W W') (hr : ReadsTo ⟨-1, []⟩ (pre ++ [x]) ⟨st, ss⟩) : PRead w w0 R B (pre ++ [x]) W' st sv vs ss :=
  ⟨h.res.step hb, h.box.step hb, h.own.below hb (Nat.le_refl _), h.la, hr, h.bel.trans (hb.mono h.bel.size), Nat.le_trans h.size hb.size, by have := h.len; simp; omega, fun s hs => by have := h.alen s hs; simp; omega⟩
theorem PRead.start (h : PRead w w0 R B pre W st sv vs ss) (hRB : R < B) (hB : B < w0.heap.size) (hw : w.heap.size ≤ R) (hp : pre.length ≤ pre'.length) (hr : ReadsTo ⟨-1, []⟩ pre' ⟨n, ss⟩) : PRead w w0 R B pre' (W.setCell ⟨B, 0, none⟩ (.int .i64 n)) n sv vs ss :=
  ⟨h.res.far (a := ⟨B, 0, none⟩) (by show R ≠ B; omega) _, (h.box.put 0 _).eq rfl, h.own.setCell (a := ⟨B, 0, none⟩) hB _, h.la, hr, h.bel.setCell (p := ⟨B, 0, none⟩) (show w.heap.size ≤ B by omega) _, by simp [World.setCell]; exact h.size, Nat.le_trans h.len hp, fun s hs => Nat.le_trans (h.alen s hs) hp⟩
theorem PRead.far (h : PRead w w0 R B pre W st sv vs ss) (hR : R < w0.heap.size) (hB : B < w0.heap.size) (hg : (W.alloc o).grownBy w3 sv.ownBlock) :
    Blk w3 R #[.int .i64 0, .slice none 0 0] 27 ∧ Blk w3 B #[.int .i64 st, sv] 27 ∧ W.heap.size ≤ w3.heap.size ∧ ∀ j, sv.ownBlock = some j → w0.heap.size ≤ j := by
  have hob : ∀ j, sv.ownBlock = some j → w0.heap.size ≤ j := fun j hj => (h.own.row.lt j hj).1
  exact ⟨(h.res.alloc o).grown hg (fun e => by have := hob R e.symm; omega), (h.box.alloc o).grown hg (fun e => by have := hob B e.symm; omega), by have := hg.size; simp at this; omega, hob⟩
/-- a state is appended -/
theorem PRead.push (h : PRead w w0 R B pre W st sv vs ss) (hRB : R < B) (hB : B < Bs) (hBs : Bs < w0.heap.size) (hw : w.heap.size ≤ R) (hg : (W.alloc o).grownBy w3 sv.ownBlock)
    (hx : w3.ownsRow w0.heap.size 51 2 v' (ss.length + 1) (statesCells ((ss.map (·.final)).zip vs) ++ [.int .i64 n, .slice none 0 0])) (hp : pre.length < pre'.length) (hr : ReadsTo ⟨-1, []⟩ pre' ⟨st, ss ++ [⟨n, []⟩]⟩) :
    PRead w w0 R B pre' (w3.setCell ⟨B, 1, none⟩ v') st v' (vs ++ [.slice none 0 0]) (ss ++ [⟨n, []⟩]) ∧ KeepsFrom w0.heap.size W (w3.setCell ⟨B, 1, none⟩ v') ∧ (w3.setCell ⟨B, 1, none⟩ v').heap[Bs]? = W.heap[Bs]? := by
  obtain ⟨f1, f2, f3, f4⟩ := h.far (by omega) (by omega) hg
  have hz := h.size
  have ho : OwnStV w3 w0.heap.size v' (vs ++ [.slice none 0 0]) (ss ++ [⟨n, []⟩]) := (h.own.below ((Below.refl _ _).alloc (Nat.le_refl _) o) (Nat.le_refl _)).app ⟨n, []⟩ (OwnArcs.nil _ _) hg rfl hx
  refine ⟨⟨f1.far (a := ⟨B, 1, none⟩) (by show R ≠ B; omega) _, (f2.put 1 _).eq rfl, ho.setCell (a := ⟨B, 1, none⟩) (by show B < _; omega) _, fun us av e u hu => ?_, hr, ?_, by simp [World.setCell]; omega, by have := h.len; simp; omega, fun s hs => ?_⟩, ?_, ?_⟩
  · have e2 : av = .slice none 0 0 := by have := congrArg List.getLast? e; simpa using this.symm
    subst e2
    cases h : u.ownBlock with
    | none => exact .inl rfl
    | some b => exact .inr (by simp [Value.ownBlock])
  · exact (((h.bel.alloc h.bel.size o).grown hg (by simp; have := h.bel.size; omega) (fun j hj => by have := f4 j hj; omega))).setCell (p := ⟨B, 1, none⟩) (by show w.heap.size ≤ B; omega) _
  · rcases List.mem_append.1 hs with hs | hs
    · have := h.alen s hs; omega
    · simp at hs; subst hs; simp
  · refine (((KeepsOthers.alloc W o).trans (KeepsOthers.of_grownBy hg fun j y hj hy => ?_)).trans (KeepsOthers.setCell _ _ _)).from _
    obtain ⟨o', ho', hc'⟩ := own_cells (own_below h.own.row ((Below.refl _ _).alloc (Nat.le_refl _) o) (Nat.le_refl _)) hj
    rw [ho'] at hy; cases hy; exact hc'
  · rw [Below.heap_setCell _ _ _ _ (show Bs ≠ B by omega), hg.block Bs (by simp; omega) (fun e => by have := f4 Bs e.symm; omega)]
    exact Below.heap_alloc W o Bs (by omega)
theorem OwnStV.cellA {w : World} {B n c : Nat} {A : Option Addr} {vs : List Value} {ss : List StateL} (h : OwnStV w B (.slice A n c) vs ss) (i : Nat) (hi : i < ss.length) (hi' : i < vs.length) : w.cell? ⟨blk A, ofs A + (i * 2 + 1), none⟩ = some vs[i] := by
  obtain ⟨hl, ho, ha⟩ := h
  have hn : n = ss.length := by
    obtain ⟨A', c', hv, -, -⟩ := own_form ho
    simp at hv; exact hv.2.1
  subst hn
  have r := Rd.of_own ho
  have hz : ((ss.map (·.final)).zip vs).length = ss.length := by simp [hl]
  have e := flatMap_at stCells 2 (fun _ => rfl) ((ss.map (·.final)).zip vs) i (by omega) 1 (by omega)
  simp only [List.getElem_zip, List.getElem_map] at e
  exact r.at' e
/-- the last state, where there is one -/
theorem PRead.last (h : PRead w w0 R B pre W st sv vs ss) (h0 : 0 < ss.length) : ∃ ss' s us g c A6 c6, ss = ss' ++ [s] ∧ vs = us ++ [.slice A6 s.arcs.length c6] ∧ sv = .slice (some ⟨g, 0, none⟩) (ss'.length + 1) c ∧
    W.cell? ⟨g, ss'.length * 2 + 1, none⟩ = some (.slice A6 s.arcs.length c6) ∧ W.frozen? ⟨g, ss'.length * 2 + 1, none⟩ = false ∧ OwnArcs W w0.heap.size (.slice A6 s.arcs.length c6) s.arcs ∧ w0.heap.size ≤ g := by
  obtain ⟨ss', s, rfl⟩ : ∃ ss' s, ss = ss' ++ [s] := ⟨ss.dropLast, ss.getLast (by intro e; simp [e] at h0), (List.dropLast_concat_getLast _).symm⟩
  obtain ⟨us, av, rfl⟩ : ∃ us av, vs = us ++ [av] := ⟨vs.dropLast, vs.getLast (by intro e; have := h.own.len; simp [e] at this), (List.dropLast_concat_getLast _).symm⟩
  have hul : us.length = ss'.length := by have := h.own.len; simp at this; exact this
  have hlast : OwnArcs W w0.heap.size av s.arcs := by
    have := h.own.arcs ss'.length (by simp) (by simp [hul])
    rw [List.getElem_append_right (by omega), List.getElem_append_right (by omega)] at this
    simpa [hul] using this
  obtain ⟨A6, c6, rfl, -, -⟩ := own_form hlast
  have e1 : (ss' ++ [s]).length = ss'.length + 1 := by simp
  have hrow := h.own.row
  rw [e1] at hrow
  obtain ⟨g, c, rfl⟩ := ownsRow_succ hrow
  have hc := h.own.cellA ss'.length (by simp) (by simp [hul])
  rw [List.getElem_append_right (by omega)] at hc
  have hgb := (hrow.lt g rfl).1
  refine ⟨ss', s, us, g, c, A6, c6, rfl, rfl, rfl, by simpa [hul, blk_some, ofs_some] using hc, ?_, hlast, hgb⟩
  rcases hrow.2 with ⟨h2, _⟩ | ⟨g', cap', cur', h2, _, hg, _⟩
  · simp at h2
  · simp at h2
    obtain ⟨rfl, -⟩ := h2
    simp [World.frozen?, hg]
/-- an arc is appended to the last state's -/
theorem PRead.arc {g c : Nat} {s : StateL} {a : ArcL} {av : Value} (h : PRead w w0 R B pre W st (.slice (some ⟨g, 0, none⟩) (ss.length + 1) c) (us ++ [av]) (ss ++ [s])) (hRB : R < B) (hB : B < Bs) (hBs : Bs < w0.heap.size) (hw : w.heap.size ≤ R) (hg : (W.alloc o).grownBy w3 av.ownBlock)
    (hx : w3.ownsRow w0.heap.size 54 4 v' (s.arcs.length + 1) (arcsCells s.arcs ++ arcCells a)) (hv : v'.ownBlock = av.ownBlock ∨ ∃ b, W.heap.size ≤ b ∧ v'.ownBlock = some b) (hp : pre.length < pre'.length) (hr : ReadsTo ⟨-1, []⟩ pre' ⟨st, ss ++ [⟨s.final, s.arcs ++ [a]⟩]⟩) :
    PRead w w0 R B pre' (w3.setCell ⟨g, ss.length * 2 + 1, none⟩ v') st (.slice (some ⟨g, 0, none⟩) (ss.length + 1) c) (us ++ [v']) (ss ++ [⟨s.final, s.arcs ++ [a]⟩]) ∧ KeepsFrom w0.heap.size W (w3.setCell ⟨g, ss.length * 2 + 1, none⟩ v') ∧ (w3.setCell ⟨g, ss.length * 2 + 1, none⟩ v').heap[Bs]? = W.heap[Bs]? := by
  have hul : us.length = ss.length := by have := h.own.len; simp at this; exact this
  have hlast : OwnArcs W w0.heap.size av s.arcs := by
    have := h.own.arcs ss.length (by simp) (by simp [hul])
    rw [List.getElem_append_right (by omega), List.getElem_append_right (by omega)] at this
    simpa [hul] using this
  have f4 : ∀ j, av.ownBlock = some j → w0.heap.size ≤ j := fun j hj => (hlast.lt j hj).1
  have hgb : w0.heap.size ≤ g := (h.own.row.lt g rfl).1
  have hz := h.size
  have hz3 : W.heap.size ≤ w3.heap.size := by have := hg.size; simp at this; omega
  obtain ⟨ho, hla⟩ := h.own.addArc (h.la us av rfl) hg hx hv
  have f1 : Blk w3 R #[.int .i64 0, .slice none 0 0] 27 := (h.res.alloc o).grown hg (fun e => by have := f4 R e.symm; omega)
  have f2 := (h.box.alloc o).grown hg (fun e => by have := f4 B e.symm; omega)
  refine ⟨⟨f1.far (a := ⟨g, ss.length * 2 + 1, none⟩) (by show R ≠ g; omega) _, f2.far (a := ⟨g, ss.length * 2 + 1, none⟩) (by show B ≠ g; omega) _, ho, fun us' av' e => ?_, hr, ?_, by simp [World.setCell]; omega, by have := h.len; simp at this ⊢; omega, fun y hy => ?_⟩, ?_, ?_⟩
  · have e1 := congrArg List.getLast? e
    have e2 := congrArg List.dropLast e
    simp at e1 e2
    rw [← e1, ← e2]; exact hla
  · exact (((h.bel.alloc h.bel.size o).grown hg (by simp; have := h.bel.size; omega) (fun j hj => by have := f4 j hj; omega))).setCell (p := ⟨g, ss.length * 2 + 1, none⟩) (by show w.heap.size ≤ g; omega) _
  · rcases List.mem_append.1 hy with hy | hy
    · have := h.alen y (by simp [hy]); omega
    · simp at hy; subst hy
      have := h.alen s (by simp)
      simp; omega
  · refine (((KeepsOthers.alloc W o).trans (KeepsOthers.of_grownBy hg fun j y hj hy => ?_)).trans (KeepsOthers.setCell _ _ _)).from _
    obtain ⟨o', ho', hc'⟩ := own_cells (own_below hlast ((Below.refl _ _).alloc (Nat.le_refl _) o) (Nat.le_refl _)) hj
    rw [ho'] at hy; cases hy; exact hc'
  · rw [Below.heap_setCell _ _ _ _ (show Bs ≠ g by omega), hg.block Bs (by simp; omega) (fun e => by have := f4 Bs e.symm; omega)]
    exact Below.heap_alloc W o Bs (by omega)
end
def PReadX (w w0 : World) (R B : Nat) (pre : List (List UInt8)) (W : World) : Prop := ∃ st sv vs ss, PRead w w0 R B pre W st sv vs ss
theorem pread_own (w w0 : World) (R B Bs : Nat) (hR : R < Bs) (hB : B < Bs) (hBs : Bs < w0.heap.size) (hw : w.heap.size ≤ R) : BoxOwn w0.heap.size Bs (PReadX w w0 R B) := by
  rintro pre W W' row ⟨st, sv, vs, ss, h⟩ hg hr
  have hblk : ∀ b cs t, b < Bs → Blk W b cs t → Blk W' b cs t := fun b cs t hb hblk => hblk.grown hg (fun e => by
    rcases hr b e.symm with h1 | ⟨_, o, ho, hc⟩
    · omega
    · unfold Blk at hblk; rw [hblk] at ho; cases ho; cases hc)
  refine ⟨st, sv, vs, ss, hblk _ _ _ hR h.res, hblk _ _ _ hB h.box, h.own.keptFrom hg (fun r e => ?_), h.la, h.rd, h.bel.grown hg (by have := h.bel.size; omega) (fun k e => ?_), Nat.le_trans h.size hg.size, h.len, h.alen⟩
  · rcases hr r e with h1 | ⟨_, h1⟩
    · left; omega
    · exact .inr h1
  · rcases hr k e with h1 | ⟨h1, _⟩
    · omega
    · omega
end Go.Proofs.YtajbfhdkghofbaaGreatDoor
