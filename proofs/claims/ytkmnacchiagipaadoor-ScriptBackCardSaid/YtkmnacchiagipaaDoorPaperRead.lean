/- paper (plain): what a text reads as, as far as it must be known: what was shown is read as it was. -/
import Derived.Test.YtkmnacchiagipaaDoorPaperPlain
import Derived.Test.YtkmnacchiagipaaDoorLinesPlain
import Derived.Lib.SplitLaws
namespace Go.Proofs.YtkmnacchiagipaaDoor
open Go.RowKit

/-! ### words of a line -/
theorem index_one (c : UInt8) : ∀ s : List UInt8, Lib.index s [c] = Lib.indexByte s c := by
  intro s
  induction s with
  | nil => rfl
  | cons b l ih =>
    unfold Lib.index Lib.indexByte
    rw [ih]
    by_cases h : b = c
    · subst h; simp [List.isPrefixOf]
    · have : ([c].isPrefixOf (b :: l)) = false := by simp [List.isPrefixOf]; exact fun e => h e.symm
      simp [this, h]
theorem indexB_none (s : List UInt8) (c : UInt8) (h : c ∉ s) : Lib.indexByte s c = -1 := by
  induction s with
  | nil => rfl
  | cons b l ih =>
    unfold Lib.indexByte
    rw [ih (fun e => h (by simp [e])), if_neg (by simp; exact fun e => h (by simp [e]))]; simp
theorem indexB_at (c : UInt8) (l r : List UInt8) (h : c ∉ l) : Lib.indexByte (l ++ c :: r) c = l.length := by
  induction l with
  | nil => simp [Lib.indexByte]
  | cons b l ih =>
    have hc : b ≠ c := fun e => h (by simp [e])
    have := ih (fun hm => h (by simp [hm]))
    simp only [List.cons_append, Lib.indexByte, this]
    rw [if_neg (by simpa using hc), if_neg (by simp <;> omega)]
    simp
theorem split_join : ∀ (x : List UInt8) (r : List (List UInt8)), (∀ y ∈ x :: r, (32 : UInt8) ∉ y) → Lib.splitK [32] 0 r.length (Lib.join (x :: r) [32]) = x :: r := by
  intro x r
  induction r generalizing x with
  | nil => intro _; simp [Lib.splitK, Lib.join_one]
  | cons y r ih =>
    intro h
    have e : Lib.join (x :: y :: r) [32] = x ++ 32 :: Lib.join (y :: r) [32] := by simp [Lib.join, List.intercalate, List.intersperse]
    have hi : Lib.index (Lib.join (x :: y :: r) [32]) [32] = x.length := by rw [index_one, e]; exact indexB_at 32 x _ (h x (by simp))
    rw [List.length_cons, Lib.splitK, hi, if_neg (by simp <;> omega)]
    rw [show ((x.length : Int).toNat + 0) = x.length by omega, show ((x.length : Int).toNat + [(32 : UInt8)].length) = (x ++ [(32 : UInt8)]).length by simp]
    rw [show Lib.join (x :: y :: r) [32] = (x ++ [32]) ++ Lib.join (y :: r) [32] by rw [e]; simp, List.drop_left]
    rw [show (x ++ [32]) ++ Lib.join (y :: r) [32] = x ++ ([32] ++ Lib.join (y :: r) [32]) by simp, List.take_left]
    rw [ih y fun z hz => h z (by simp only [List.mem_cons] at hz ⊢; exact .inr hz)]
theorem count_join : ∀ (x : List UInt8) (r : List (List UInt8)), (∀ y ∈ x :: r, (32 : UInt8) ∉ y) → (Lib.join (x :: r) [32]).count 32 = r.length := by
  intro x r
  induction r generalizing x with
  | nil => intro h; rw [Lib.join_one]; exact List.count_eq_zero.2 (h x (by simp))
  | cons y r ih =>
    intro h
    have e : Lib.join (x :: y :: r) [32] = x ++ 32 :: Lib.join (y :: r) [32] := by simp [Lib.join, List.intercalate, List.intersperse]
    rw [e, List.count_append, List.count_cons, ih y fun z hz => h z (by simp only [List.mem_cons] at hz ⊢; exact .inr hz), List.count_eq_zero.2 (h x (by simp))]
    simp
def wordsOf (x : List UInt8) : List (List UInt8) := Lib.split (Lib.trimSuffix x [10]) [32]
theorem trim_line (s : List UInt8) : Lib.trimSuffix (s ++ [10]) [10] = s := by
  unfold Lib.trimSuffix Lib.hasSuffix
  rw [if_pos (by simp)]
  rw [show (s ++ [(10 : UInt8)]).length - [(10 : UInt8)].length = s.length by simp, List.take_left]
theorem words_line (x : List UInt8) (r : List (List UInt8)) (h : ∀ y ∈ x :: r, (32 : UInt8) ∉ y) : wordsOf (lineL (x :: r)) = x :: r := by
  unfold wordsOf lineL
  rw [trim_line, Lib.split, Lib.count_one, count_join x r h, split_join x r h]

theorem splitK_len (sep : List UInt8) : ∀ (k : Nat) (s y : List UInt8), y ∈ Lib.splitK sep 0 k s → y.length ≤ s.length
  | 0, s, y, h => by simp [Lib.splitK] at h; rw [h]; exact Nat.le_refl _
  | k + 1, s, y, h => by
    unfold Lib.splitK at h
    split at h
    · simp at h; rw [h]; exact Nat.le_refl _
    · rcases List.mem_cons.1 h with rfl | h
      · simp; omega
      · have := splitK_len sep k _ y h
        simp at this; omega
theorem words_len (x y : List UInt8) (h : y ∈ wordsOf x) : y.length ≤ x.length := by
  have h1 := splitK_len [32] _ _ y h
  have h2 : (Lib.trimSuffix x [10]).length ≤ x.length := by unfold Lib.trimSuffix; split <;> simp
  omega
/-! ### what is known of a reading -/
def NumOf (w : List UInt8) (n : Int) : Prop := w.length ≤ 18 → n = (Lib.atoi w).getD (-1)
def NumsOf (ws : List (List UInt8)) (ns : List Int) : Prop := ns.length = ws.length ∧ ∀ i (h : i < ws.length) (h' : i < ns.length), NumOf ws[i] ns[i]
theorem getD_at {l : List Int} {i : Nat} (h : i < l.length) : l.getD i 0 = l[i] := by rw [List.getD_eq_getElem?_getD, List.getElem?_eq_getElem h]; rfl
/-- an arc behind the last state's -/
def addArc (ss : List StateL) (a : ArcL) : List StateL := match ss.getLast? with
  | none => ss
  | some s => ss.dropLast ++ [⟨s.final, s.arcs ++ [a]⟩]
theorem addArc_snoc (ss : List StateL) (s : StateL) (a : ArcL) : addArc (ss ++ [s]) a = ss ++ [⟨s.final, s.arcs ++ [a]⟩] := by simp [addArc]
/-- one line read -/
def StepR (x : List UInt8) (m m' : MachL) : Prop := ∃ ns, NumsOf ((wordsOf x).drop 1) ns ∧
  (if (wordsOf x).getD 0 [] = wStart ∧ ns.length = 1 then m' = { m with start := ns.getD 0 0 }
   else if (wordsOf x).getD 0 [] = wState ∧ ns.length = 1 then ∃ v er, ReadR ((wordsOf x).getD 1 []) v er ∧ m' = { m with states := m.states ++ [⟨v, []⟩] }
   else if (wordsOf x).getD 0 [] = wArc ∧ ns.length = 4 ∧ 0 < m.states.length then m' = { m with states := addArc m.states ⟨ns.getD 1 0, ns.getD 2 0, ns.getD 3 0, ns.getD 0 0⟩ }
   else m' = m)
def ReadsTo : MachL → List (List UInt8) → MachL → Prop
  | m, [], m' => m' = m
  | m, x :: l, m' => ∃ m1, StepR x m m1 ∧ ReadsTo m1 l m'
theorem ReadsTo.snoc : ∀ {l : List (List UInt8)} {m m1 m2 : MachL} {x : List UInt8}, ReadsTo m l m1 → StepR x m1 m2 → ReadsTo m (l ++ [x]) m2
  | [], m, m1, m2, x, h, k => by obtain rfl : m1 = m := h; exact ⟨m2, k, rfl⟩
  | y :: l, m, m1, m2, x, ⟨m3, h1, h2⟩, k => ⟨m3, h1, h2.snoc k⟩

/-! ### what was shown is read as it was -/
def noSp (x : List UInt8) : Prop := ∀ b ∈ x, b ≠ 32 ∧ b ≠ 10
theorem dec_noSp (n : Nat) : noSp (Lib.decDigits n) := fun b hb => by
  have := dec_digs n b hb
  unfold IsDig at this
  exact ⟨fun e => by subst e; revert this; decide, fun e => by subst e; revert this; decide⟩
theorem show_noSp (n : Int) : noSp (showL n) := by
  unfold showL
  split
  · unfold noSp infB; decide
  · exact dec_noSp _
theorem start_noSp (n : Int) : noSp (startL n) := by
  unfold startL
  split
  · unfold noSp; decide
  · exact dec_noSp _
theorem line_ok (x : List UInt8) (r : List (List UInt8)) (h : ∀ y ∈ x :: r, noSp y) : ∃ l, lineL (x :: r) = l ++ [10] ∧ (10 : UInt8) ∉ l := by
  refine ⟨_, rfl, ?_⟩
  induction r generalizing x with
  | nil => rw [Lib.join_one]; exact fun hm => ((h x (by simp)) _ hm).2 rfl
  | cons y r ih =>
    have e : Lib.join (x :: y :: r) [32] = x ++ 32 :: Lib.join (y :: r) [32] := by simp [Lib.join, List.intercalate, List.intersperse]
    rw [e]
    intro hm
    rcases List.mem_append.1 hm with hm | hm
    · exact ((h x (by simp)) _ hm).2 rfl
    · rcases List.mem_cons.1 hm with hm | hm
      · exact absurd hm (by decide)
      · exact ih y (fun z hz => h z (by simp only [List.mem_cons] at hz ⊢; exact .inr hz)) hm
theorem num_dec {n v : Int} (h0 : 0 ≤ n) (h1 : n ≤ 1000000000) (h : NumOf (Lib.decDigits n.toNat) v) : v = n := by
  rw [h (by have := dec_10 h1; omega), atoi_dec]
  simp; omega
theorem num_start {n v : Int} (h0 : -1 ≤ n) (h1 : n ≤ 1000000000) (h : NumOf (startL n) v) : v = n := by
  unfold startL at h
  split at h
  · rw [h (by decide)]
    have : n = -1 := by omega
    subst this; rfl
  · exact num_dec (by omega) h1 h

theorem step_start {m m' : MachL} {n : Int} (h0 : -1 ≤ n) (h1 : n ≤ 1000000000) (h : StepR (lineL [wStart, startL n]) m m') : m' = { m with start := n } := by
  have hw : wordsOf (lineL [wStart, startL n]) = [wStart, startL n] := words_line _ _ fun y hy hm => by
    simp only [List.mem_cons, List.not_mem_nil, or_false] at hy
    rcases hy with rfl | rfl
    · revert hm; decide
    · exact (start_noSp n _ hm).1 rfl
  obtain ⟨ns, ⟨hl, hn⟩, hs⟩ := h
  rw [hw] at hl hn hs
  simp only [List.drop_succ_cons, List.drop_zero, List.length_cons, List.length_nil] at hl hn
  have e := hn 0 (by simp) (by omega)
  rw [if_pos ⟨rfl, by omega⟩] at hs
  rw [hs]
  have e2 : ns.getD 0 0 = n := by
    rw [getD_at (by omega)]
    exact num_start h0 h1 e
  rw [e2]
theorem step_state {m m' : MachL} {n : Int} (hv : ValidFinal n) (h : StepR (lineL [wState, showL n]) m m') : m' = { m with states := m.states ++ [⟨n, []⟩] } := by
  have hw : wordsOf (lineL [wState, showL n]) = [wState, showL n] := words_line _ _ fun y hy hm => by
    simp only [List.mem_cons, List.not_mem_nil, or_false] at hy
    rcases hy with rfl | rfl
    · revert hm; decide
    · exact (show_noSp n _ hm).1 rfl
  have hn0 : 0 ≤ n ∧ n ≤ 1000000001 := by unfold ValidFinal at hv; omega
  obtain ⟨ns, ⟨hl, hn⟩, hs⟩ := h
  rw [hw] at hl hn hs
  simp only [List.drop_succ_cons, List.drop_zero, List.length_cons, List.length_nil] at hl
  rw [if_neg (fun h => absurd (show wState = wStart from h.1) (by decide)), if_pos ⟨rfl, by omega⟩] at hs
  obtain ⟨v, er, hr, rfl⟩ := hs
  have he : er = 0 := by
    by_cases e : er = 0
    · exact e
    · exact absurd rfl ((hr.bad e).2 n hn0.1 hn0.2)
  have := (hr.good he).2
  rw [showL_inj hn0.1 (hr.good he).1.1 this]
theorem step_arc {m m' : MachL} {k : Int} {a : ArcL} (hv : ValidArc k a) (hk : k ≤ 60) (ss : List StateL) (s : StateL) (hm : m.states = ss ++ [s]) (h : StepR (arcT a) m m') : m' = { m with states := ss ++ [⟨s.final, s.arcs ++ [a]⟩] } := by
  have hw : wordsOf (arcT a) = [wArc, Lib.decDigits a.to.toNat, Lib.decDigits a.inn.toNat, Lib.decDigits a.out.toNat, Lib.decDigits a.wt.toNat] := words_line _ _ fun y hy hm => by
    simp only [List.mem_cons, List.not_mem_nil, or_false] at hy
    rcases hy with rfl | rfl | rfl | rfl | rfl
    · revert hm; decide
    all_goals exact (dec_noSp _ _ hm).1 rfl
  obtain ⟨ns, ⟨hl, hn⟩, hs⟩ := h
  rw [hw] at hl hn hs
  simp only [List.drop_succ_cons, List.drop_zero, List.length_cons, List.length_nil] at hl
  rw [if_neg (fun h => absurd (show wArc = wStart from h.1) (by decide)), if_neg (fun h => absurd (show wArc = wState from h.1) (by decide)), if_pos ⟨rfl, by omega, by rw [hm]; simp⟩] at hs
  have g0 := hn 0 (by simp) (by omega); have g1 := hn 1 (by simp) (by omega); have g2 := hn 2 (by simp) (by omega); have g3 := hn 3 (by simp) (by omega)
  have v0 := hv.t0; have v1 := hv.t1; have v2 := hv.i0; have v3 := hv.i1; have v4 := hv.o0; have v5 := hv.o1; have v6 := hv.w0; have v7 := hv.w1
  have f0 := num_dec v0 (by omega) g0; have f1 := num_dec v2 (by omega) g1; have f2 := num_dec v4 (by omega) g2; have f3 := num_dec v6 (by omega) g3
  rw [hs, hm, addArc_snoc]
  have e : (⟨ns.getD 1 0, ns.getD 2 0, ns.getD 3 0, ns.getD 0 0⟩ : ArcL) = a := by
    rw [getD_at (by omega), getD_at (by omega), getD_at (by omega), getD_at (by omega), f0, f1, f2, f3]
  rw [e]

theorem arc_line (a : ArcL) : ∃ l, arcT a = l ++ [10] ∧ (10 : UInt8) ∉ l := line_ok _ _ fun y hy => by
  simp only [List.mem_cons, List.not_mem_nil, or_false] at hy
  rcases hy with rfl | rfl | rfl | rfl | rfl
  · unfold noSp wArc; decide
  all_goals exact dec_noSp _
theorem state_line (n : Int) : ∃ l, lineL [wState, showL n] = l ++ [10] ∧ (10 : UInt8) ∉ l := line_ok _ _ fun y hy => by
  simp only [List.mem_cons, List.not_mem_nil, or_false] at hy
  rcases hy with rfl | rfl
  · unfold noSp wState; decide
  · exact show_noSp _
theorem start_line (n : Int) : ∃ l, lineL [wStart, startL n] = l ++ [10] ∧ (10 : UInt8) ∉ l := line_ok _ _ fun y hy => by
  simp only [List.mem_cons, List.not_mem_nil, or_false] at hy
  rcases hy with rfl | rfl
  · unfold noSp wStart; decide
  · exact start_noSp _
theorem lines_cons {x : List UInt8} (h : ∃ l, x = l ++ [10] ∧ (10 : UInt8) ∉ l) (r : List UInt8) : linesL (x ++ r) = x :: linesL r := by
  obtain ⟨l, rfl, h⟩ := h; exact linesL_line l r h
theorem lines_arcs : ∀ (az : List ArcL) (r : List UInt8), linesL (az.flatMap arcT ++ r) = az.map arcT ++ linesL r
  | [], r => rfl
  | a :: az, r => by rw [List.flatMap_cons, List.append_assoc, lines_cons (arc_line a), lines_arcs az r]; rfl
theorem reads_arcs {k : Int} (hk : k ≤ 60) : ∀ (az : List ArcL) (m m' : MachL) (ss : List StateL) (s : StateL) (r : List (List UInt8)), (∀ a ∈ az, ValidArc k a) → m.states = ss ++ [s] → ReadsTo m (az.map arcT ++ r) m' →
    ReadsTo { m with states := ss ++ [⟨s.final, s.arcs ++ az⟩] } r m'
  | [], m, m', ss, s, r, _, hm, h => by
    have e : ({ m with states := ss ++ [⟨s.final, s.arcs ++ []⟩] } : MachL) = m := by cases m; simp at hm ⊢; exact hm.symm
    rw [e]; exact h
  | a :: az, m, m', ss, s, r, hv, hm, h => by
    obtain ⟨m1, h1, h2⟩ := h
    have e := step_arc (hv a (by simp)) hk ss s hm h1
    subst e
    have := reads_arcs hk az _ m' ss ⟨s.final, s.arcs ++ [a]⟩ r (fun x hx => hv x (by simp [hx])) rfl h2
    simpa using this
theorem reads_states {k : Int} (hk : k ≤ 60) : ∀ (ss : List StateL) (m m' : MachL), (∀ s ∈ ss, ValidFinal s.final ∧ ∀ a ∈ s.arcs, ValidArc k a) → ReadsTo m (linesL (ss.flatMap stateT)) m' → m' = { m with states := m.states ++ ss }
  | [], m, m', _, h => by
    have : m' = m := h
    rw [this]; cases m; simp
  | s :: ss, m, m', hv, h => by
    have hs := hv s (by simp)
    rw [List.flatMap_cons, stateT, List.append_assoc, lines_cons (state_line s.final), lines_arcs] at h
    obtain ⟨m1, h1, h2⟩ := h
    have e := step_state hs.1 h1
    subst e
    have h3 := reads_arcs hk s.arcs _ m' m.states ⟨s.final, []⟩ _ hs.2 rfl h2
    have h4 := reads_states hk ss _ m' (fun x hx => hv x (by simp [hx])) h3
    rw [h4]; simp
/-- what was shown is read az it was -/
theorem reads_back {m m' : MachL} (hv : Valid m) (h : ReadsTo ⟨-1, []⟩ (linesL (machT m)) m') : m' = m := by
  have h0 := hv.s0; have h1 := hv.s1; have h2 := hv.size
  unfold machT at h
  rw [lines_cons (start_line m.start)] at h
  obtain ⟨m1, h3, h4⟩ := h
  have e := step_start h0 (by omega) h3
  subst e
  have h5 := reads_states (k := m.states.length) (by omega) m.states _ m' hv.st h4
  rw [h5]; cases m; simp
theorem machT_len {m : MachL} (hv : Valid m) : (machT m).length ≤ 20000 := by rw [← textQ_all]; exact textQ_len hv _ (Nat.le_refl _)
end Go.Proofs.YtkmnacchiagipaaDoor
