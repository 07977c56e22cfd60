/- 'for line := range strings.Lines(s)': a law for the loop: the iterator keeps what is left of s in a box of its own. -/
import Derived.RangeFuncNested
import Derived.RangeFuncBound
import Derived.RangeFuncCalls
import Derived.RangeFuncLeaves
import Derived.Shelf.Abstract
import Derived.Shelf.RegionOpen
import Derived.WalkKit
import Derived.OwnWalkIn
import Derived.TacticsInMore
import Derived.LoopNIn
import Derived.LoopIn
import Derived.RangeFuncBox
import Derived.Test.YtkmnacchiagipaaDoorLinesPlain
namespace Go.Proofs.YtkmnacchiagipaaDoor
open Go.RowKit

/-- it speaks neither of the box nor of what is no cells and lies at B or behind -/
def BoxOwn {β : Type} (B Bs : Nat) (I : β → World → Prop) : Prop :=
  ∀ s W W' row, I s W → W.grownBy W' row → (∀ r, row = some r → r = Bs ∨ (B ≤ r ∧ ∃ o : Obj, W.heap[r]? = some o ∧ o.isCells = false)) → I s W'
theorem BoxOwn.put {β : Type} {B Bs : Nat} {I : β → World → Prop} (h : BoxOwn B Bs I) {s : β} {W : World} {l : Nat} {o : Obj} (o' : Obj) (hs : I s W) (hB : B ≤ l) (hl : W.heap[l]? = some o) (ho : o.isCells = false) : I s (W.putObj l o') :=
  h s W _ (some l) hs (grownBy_putObj' W l o') (fun r e => by cases e; exact .inr ⟨hB, o, hl, ho⟩)
theorem BoxOwn.alloc {β : Type} {B Bs : Nat} {I : β → World → Prop} (h : BoxOwn B Bs I) {s : β} {W : World} (o : Obj) (hs : I s W) : I s (W.alloc o) :=
  h s W _ none hs (World.grownBy_alloc W o none) (fun r e => by cases e)
theorem BoxOwn.set {β : Type} {B Bs : Nat} {I : β → World → Prop} (h : BoxOwn B Bs I) {s : β} {W : World} (v : Value) (hs : I s W) : I s (W.setCell ⟨Bs, 0, none⟩ v) :=
  h s W _ (some Bs) hs (grownBy_setCell' W Bs v) (fun r e => by cases e; exact .inl rfl)

theorem BoxOwn.draw {β : Type} {B Bs : Nat} {I : β → World → Prop} (h : BoxOwn B Bs I) {s : β} {W : World} (hs : I s W) : I s W.drew :=
  h s W _ none hs ⟨rfl, rfl, rfl, Nat.le_refl _, fun _ _ _ => rfl⟩ (fun r e => by cases e)

/-- how a round may be left -/
def linePost {α : Type} (B Bs : Nat) (I : α → World → Prop) (Ix : Code → World → Prop) (xs : α) (W : World) : Exit → Act → World → Prop
  | .normal, _, W' => KeepsFrom B W W' ∧ W'.heap[Bs]? = W.heap[Bs]? ∧ I xs W'
  | .ret, _, W' => KeepsFrom B W W' ∧ Ix .ret W'
  | .exit id, _, W' => KeepsFrom B W W' ∧ Ix (.exit id) W'
  | .goto t, _, W' => KeepsFrom B W W' ∧ Ix (.goto t) W'
  | .panic _, _, _ => False
  | .outgrown, _, _ => False

/-- what the iterator does, whatever the rounds are -/
def LinesRun (P : Program) (gf T : Nat) : Prop := ∀ (n l Bs : Nat) (s : List UInt8) (W : World) (J : List (List UInt8) → World → Prop) (Jx : World → Prop), s.length ≤ 1000000000 →
  (∀ pre W v, J pre W → J pre (W.setCell ⟨Bs, 0, none⟩ v)) → (∀ pre W, J pre W → J pre W.drew) →
  (∀ pre x rest W1, linesL s = pre ++ x :: rest → J pre W1 → YieldAt Fence.wide n P l #[.string ⟨x.toArray⟩] W1 fun e W' =>
    (e = .returned (.bool true) ∧ J (pre ++ [x]) W' ∧ W'.heap[Bs]? = W1.heap[Bs]?) ∨ (e = .returned (.bool false) ∧ Jx W')) →
  Boxed W Bs T (.string ⟨s.toArray⟩) → J [] W →
  CallsIn Fence.wide (n + 1) P gf #[.func (.yield l) #[] #[], .pointer (some ⟨Bs, 0, none⟩)] W fun e W' => (∃ v, e = .returned v) ∧ (J (linesL s) W' ∨ Jx W')

theorem wpIn_lines {P : Program} {gf T : Nat} (hrun : LinesRun P gf T) (eg : ∀ args w, (callFunc gf args).run P w = .ok (.enter gf args) w)
    {g : Operand} {p : Tmp} {assign body : Code} {Q : Exit → Act → World → Prop} {a : Act} {w : World} (n Bs : Nat) (s : List UInt8)
    (hg : a.eval g = .func (.func gf) #[] #[.pointer (some ⟨Bs, 0, none⟩)]) (hbx : Boxed w Bs T (.string ⟨s.toArray⟩)) (hsl : s.length ≤ 1000000000)
    (I : List (List UInt8) → World → Prop) (Ix : Code → World → Prop) (hI : BoxOwn w.heap.size Bs I) (hIx : ∀ c, BoxOwn w.heap.size Bs (fun (_ : Unit) => Ix c)) (h0 : I [] w) (a₁ : List UInt8 → Act)
    (hassign : ∀ (l : Nat) (x : List UInt8) (W : World) (K : Act → World → Prop), K (a₁ x) W →
      assign.wpIn (Fence.wide.inRound l) n P (Exit.then K (fun _ _ _ => False)) { tmps := a.tmps.setIfInBounds p (.string ⟨x.toArray⟩), defers := [] } W)
    (hbody : ∀ (l : Nat) (pre : List (List UInt8)) (x : List UInt8) (rest : List (List UInt8)) (W : World), linesL s = pre ++ x :: rest → I pre W → body.wpIn (Fence.wide.inRound l) n P (linePost w.heap.size Bs I Ix (pre ++ [x]) W) (a₁ x) W)
    (hdone : ∀ (D : Nat) (W : World), w.heap.size ≤ D → I (linesL s) W → W.heap[D]? = some (.deferred (some [])) → Q .normal { a with defers := { target := .collected D, args := #[] } :: a.defers } W)
    (hstop : ∀ (D : Nat) (c : Code) (W : World), w.heap.size ≤ D → Ix c W → W.heap[D]? = some (.deferred (some [])) → c.wpIn Fence.wide (n + 1 + 1) P Q { a with defers := { target := .collected D, args := #[] } :: a.defers } W) :
    (Code.rangeFunc g #[p] assign body).wpIn Fence.wide (n + 1 + 1) P Q a w := by
  refine wpIn_rangeFunc fun fn hfn => ?_
  have hlB : Bs < w.heap.size := hbx.lt
  obtain ⟨mk, hmk⟩ : ∃ mk : LoopState → Option Code → Loop, mk = fun st pe => { state := st, pending := pe, fn, tmps := a.tmps, params := #[p], assign, body, defers := w.heap.size } := ⟨_, rfl⟩
  obtain ⟨W1, hW1⟩ : ∃ W1, (w.alloc (.deferred (some []))).alloc (.loop (mk .ready none)) = W1 := ⟨_, rfl⟩
  have hL1 : W1.heap[w.heap.size + 1]? = some (.loop (mk .ready none)) := by
    rw [← hW1]; have := World.alloc_heap_new (w.alloc (.deferred (some []))) (.loop (mk .ready none)); rwa [World.size_alloc] at this
  have hK1 : W1.heap[w.heap.size]? = some (.deferred (some [])) := by
    rw [← hW1]; exact (Below.heap_alloc _ _ _ (by simp)).trans (World.alloc_heap_new w _)
  have hI1 : I [] W1 := by rw [← hW1]; exact hI.alloc _ (hI.alloc _ h0)
  have hB1 : Boxed W1 Bs T (.string ⟨s.toArray⟩) := by rw [← hW1]; exact (hbx.alloc _).alloc _
  refine ⟨w.heap.size + 1, [{ target := .collected w.heap.size, args := #[] }], W1, { target := .fn (.func gf) #[.pointer (some ⟨Bs, 0, none⟩)], args := #[.func (.yield (w.heap.size + 1)) #[] #[]] }, W1, gf,
    #[.func (.yield (w.heap.size + 1)) #[] #[], .pointer (some ⟨Bs, 0, none⟩)], W1, ?_, ?_, ?_, ?_, fun _ => by omega, ?_⟩
  · rw [← hW1, hmk]; exact run_enterLoop_outer _ _ _ _ _
  · simp only [resolve, hg]
    simp [go_sem]
  · intro f' hf'; trivial
  · simp [invoke, go_sem, eg]
  refine (hrun n (w.heap.size + 1) Bs s W1
    (fun pre W => I pre W ∧ W.heap[w.heap.size + 1]? = some (.loop (mk .ready none)) ∧ W.heap[w.heap.size]? = some (.deferred (some [])))
    (fun W => ∃ c, Ix c W ∧ W.heap[w.heap.size + 1]? = some (.loop (mk .done (some c))) ∧ W.heap[w.heap.size]? = some (.deferred (some [])))
    hsl (fun pre W v h => ⟨hI.set v h.1, (Below.heap_setCell W ⟨Bs, 0, none⟩ v _ (by simp; omega)).trans h.2.1, (Below.heap_setCell W ⟨Bs, 0, none⟩ v _ (by simp; omega)).trans h.2.2⟩)
    (fun pre W h => ⟨hI.draw h.1, h.2.1, h.2.2⟩) ?_ hB1 ⟨hI1, hL1, hK1⟩).mono ?_
  · rintro pre x rest W hx ⟨hi, hl, hk⟩
    have hlt : w.heap.size + 1 < W.heap.size := (Array.getElem?_eq_some_iff.1 hl).1
    have hy := run_yield (P := P) (args := #[.string ⟨x.toArray⟩]) hl (by rw [hmk]; rfl)
    rw [hmk] at hy
    have ha : (#[p].zip #[Value.string ⟨x.toArray⟩]).foldl (fun tmps (t, v) => tmps.setIfInBounds t v) a.tmps = a.tmps.setIfInBounds p (.string ⟨x.toArray⟩) := by simp
    refine ⟨fn, _, assign, body, hy, roundIn_of_wpIn hfn ?_⟩
    rw [ha]
    refine hassign _ x W _ ⟨_, run_beginRound hl (by rw [hmk]), ?_⟩
    have hl2 : (W.putObj (w.heap.size + 1) (.loop { mk .ready none with state := .busy })).heap[w.heap.size + 1]? = some (.loop { mk .ready none with state := .busy }) := World.putObj_heap_same hlt
    have hk2 : (W.putObj (w.heap.size + 1) (.loop { mk .ready none with state := .busy })).heap[w.heap.size]? = some (.deferred (some [])) := (World.putObj_heap_other (by omega)).trans hk
    have hb2 : (W.putObj (w.heap.size + 1) (.loop { mk .ready none with state := .busy })).heap[Bs]? = W.heap[Bs]? := World.putObj_heap_other (by omega)
    refine wpIn_mono (hbody _ pre x rest _ hx (hI.put _ hi (by omega) hl rfl)) ?_
    have fin : ∀ (jump : Option Code) (W3 : World), KeepsFrom w.heap.size (W.putObj (w.heap.size + 1) (.loop { mk .ready none with state := .busy })) W3 →
        (Instr.endRound (w.heap.size + 1) jump).run P W3 = .ok (.bool jump.isNone) (W3.putObj (w.heap.size + 1) (.loop (mk (if jump.isNone then .ready else .done) jump))) ∧
        W3.heap[w.heap.size + 1]? = some (.loop { mk .ready none with state := .busy }) ∧
        (W3.putObj (w.heap.size + 1) (.loop (mk (if jump.isNone then .ready else .done) jump))).heap[w.heap.size + 1]? = some (.loop (mk (if jump.isNone then .ready else .done) jump)) ∧
        (W3.putObj (w.heap.size + 1) (.loop (mk (if jump.isNone then .ready else .done) jump))).heap[w.heap.size]? = some (.deferred (some [])) := fun jump W3 hk3 => by
      have hl3 := hk3.same _ _ (by omega) hl2 rfl
      have := run_endRound (P := P) jump hl3
      rw [hmk] at this ⊢
      exact ⟨this, by rw [hmk] at hl3; exact hl3, World.putObj_heap_same (Array.getElem?_eq_some_iff.1 hl3).1, (World.putObj_heap_other (by omega)).trans (hk3.same _ _ (by omega) hk2 rfl)⟩
    rintro e a3 W3 hp
    cases e with
    | normal =>
      obtain ⟨hk3, hb3, hi3⟩ := hp
      obtain ⟨hr, hl3, hl4, hk4⟩ := fin none W3 hk3
      exact ⟨_, _, hr, .inl ⟨rfl, ⟨hI.put _ hi3 (by omega) hl3 rfl, hl4, hk4⟩, (World.putObj_heap_other (by omega)).trans (hb3.trans hb2)⟩⟩
    | ret =>
      obtain ⟨hk3, hi3⟩ := hp
      obtain ⟨hr, hl3, hl4, hk4⟩ := fin (some .ret) W3 hk3
      exact ⟨_, _, hr, .inr ⟨rfl, .ret, (hIx _).put (s := ()) _ hi3 (by omega) hl3 rfl, hl4, hk4⟩⟩
    | exit id =>
      obtain ⟨hk3, hi3⟩ := hp
      obtain ⟨hr, hl3, hl4, hk4⟩ := fin (some (.exit id)) W3 hk3
      exact ⟨_, _, hr, .inr ⟨rfl, .exit id, (hIx _).put (s := ()) _ hi3 (by omega) hl3 rfl, hl4, hk4⟩⟩
    | goto t =>
      obtain ⟨hk3, hi3⟩ := hp
      obtain ⟨hr, hl3, hl4, hk4⟩ := fin (some (.goto t)) W3 hk3
      exact ⟨_, _, hr, .inr ⟨rfl, .goto t, (hIx _).put (s := ()) _ hi3 (by omega) hl3 rfl, hl4, hk4⟩⟩
    | panic ch => exact hp.elim
    | outgrown => exact hp.elim
  · rintro e W2 ⟨⟨v, rfl⟩, (⟨hi, hl, hk⟩ | ⟨c, hi, hl, hk⟩)⟩
    · exact ⟨none, _, by have := run_endLoop (P := P) hl (by rw [hmk]; simp); rw [hmk] at this; exact this, hdone _ _ (Nat.le_refl _) (hI.put _ hi (by omega) hl rfl) ((World.putObj_heap_other (by omega)).trans hk)⟩
    · exact ⟨some c, _, by have := run_endLoop (P := P) hl (by rw [hmk]; simp); rw [hmk] at this; exact this, hstop _ c _ (Nat.le_refl _) ((hIx c).put (s := ()) _ hi (by omega) hl rfl) ((World.putObj_heap_other (by omega)).trans hk)⟩

/-! ### a round that appends to a row that a box holds -/
theorem keepsFrom_below {B : Nat} {W W' : World} (h : Below W.heap.size W W') : KeepsFrom B W W' := ⟨h.size, fun k _ _ hk _ => (h.block k (Array.getElem?_eq_some_iff.1 hk).1).trans hk⟩
theorem own_cells {W : World} {base e size n : Nat} {v : Value} {xs : List Value} (h : W.ownsRow base e size v n xs) {j : Nat} (hj : v.ownBlock = some j) : ∃ o : Obj, W.heap[j]? = some o ∧ o.isCells = true := by
  rcases h.2 with ⟨rfl, _⟩ | ⟨g, cap, cur, rfl, _, hg, _⟩
  · simp [Value.ownBlock] at hj
  · simp [Value.ownBlock] at hj
    subst hj
    exact ⟨_, hg, rfl⟩
theorem line_app {W W2 w3 : World} {B Bs base T e size n : Nat} {v : Value} {xs : List Value} (hb : Below W.heap.size W W2) (hX : Boxed W2 B T v) (hY : W2.ownsRow base e size v n xs) (o : Obj) (hg : (W2.alloc o).grownBy w3 v.ownBlock)
    (hBs : Bs < base) (hB : B < base) (hBB : B ≠ Bs) (hBW : base ≤ W.heap.size) :
    (∀ v', Boxed (w3.setCell ⟨B, 0, none⟩ v') B T v' ∧ KeepsFrom base W (w3.setCell ⟨B, 0, none⟩ v') ∧ (w3.setCell ⟨B, 0, none⟩ v').heap[Bs]? = W.heap[Bs]? ∧ base ≤ (w3.setCell ⟨B, 0, none⟩ v').heap.size ∧
      (∀ {k : Nat} {ys : List Value}, w3.ownsRow base e size v' k ys → (w3.setCell ⟨B, 0, none⟩ v').ownsRow base e size v' k ys) ∧
      (∀ {w0 : World}, Below w0.heap.size w0 W → w0.heap.size ≤ B → Below w0.heap.size w0 (w3.setCell ⟨B, 0, none⟩ v'))) ∧
    Boxed w3 B T v := by
  have hob : ∀ j, v.ownBlock = some j → base ≤ j := fun j hj => (hY.lt j hj).1
  have hX3 : Boxed w3 B T v := (hX.alloc o).kept hg (fun e => by have := hob B e.symm; omega)
  have hsz : W2.heap.size ≤ w3.heap.size := by have := hg.size; simp at this; omega
  have hs2 := hb.size
  refine ⟨fun v' => ⟨hX3.set v', ?_, ?_, by simp [World.setCell]; omega, fun {k ys} hy => hy.kept (grownBy_setCell' w3 B v') (.inr (fun e => by have := (hy.lt B e).1; omega)), fun {w0} h0 hB0 => ?_⟩, hX3⟩
  · refine (keepsFrom_below hb).trans (((KeepsOthers.alloc W2 o).trans (KeepsOthers.of_grownBy hg ?_)).trans (KeepsOthers.setCell _ _ _) |>.from base)
    intro j x hj hx
    obtain ⟨o', ho', hc'⟩ := own_cells (hY.alloc o) hj
    rw [ho'] at hx; cases hx; exact hc'
  · rw [Below.heap_setCell _ _ _ _ (show Bs ≠ B from fun e => hBB e.symm), hg.block Bs (by simp; omega) (fun e => by have := hob Bs e.symm; omega), Below.heap_alloc W2 o Bs (by omega)]
    exact hb.block Bs (by omega)
  · have h1 := h0.trans (hb.mono h0.size)
    exact ((h1.alloc h1.size o).grown hg (by simp; have := h1.size; omega) (fun j hj => by have := hob j hj; omega)).setCell (p := ⟨B, 0, none⟩) hB0 _
end Go.Proofs.YtkmnacchiagipaaDoor
