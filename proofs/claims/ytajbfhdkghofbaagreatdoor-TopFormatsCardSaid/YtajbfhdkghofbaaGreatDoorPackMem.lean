/- packed: a machine's box beside a taker. -/
import Derived.Test.YtajbfhdkghofbaaGreatDoorPackGuard
import Derived.Test.YtajbfhdkghofbaaGreatDoorBuild
namespace Go.Proofs.YtajbfhdkghofbaaGreatDoor
open Go.RowKit

theorem heap_setCell_same {a b : World} (k : Nat) (h : a.heap[k]? = b.heap[k]?) (p : Addr) (v : Value) : (a.setCell p v).heap[k]? = (b.setCell p v).heap[k]? := by
  simp only [World.setCell, Array.getElem?_modify]
  by_cases e : p.block = k
  · rw [if_pos e, if_pos e, h]
  · rw [if_neg e, if_neg e, h]
theorem size_setCell (w : World) (p : Addr) (v : Value) : (w.setCell p v).heap.size = w.heap.size := by simp [World.setCell]
theorem grown_both {a b : World} {g : Nat} (h : a.grownBy b (some g)) (p : Addr) (v : Value) : (a.setCell p v).grownBy (b.setCell p v) (some g) :=
  ⟨h.os, h.tape, h.output, by rw [size_setCell, size_setCell]; exact h.size, fun k hk hne => heap_setCell_same k (h.block k (by rwa [size_setCell] at hk) hne) p v⟩
theorem below_both {a b : World} (h : Below a.heap.size a b) (p : Addr) (v : Value) : Below (a.setCell p v).heap.size (a.setCell p v) (b.setCell p v) := by
  rw [size_setCell]
  exact ⟨h.os, h.tape, h.output, by rw [size_setCell, size_setCell]; exact h.size, fun k hk => heap_setCell_same k (h.block k hk) p v⟩
theorem MB.both {w1 wr : World} {g tb : Nat} {st : Int} {sv : Value} {vs : List Value} {ss : List StateL} (h : MB w1 wr g st sv vs ss) (ht : tb < w1.heap.size) (hne : tb ≠ g) (v : Value) :
    MB (w1.setCell ⟨tb, 0, none⟩ v) (wr.setCell ⟨tb, 0, none⟩ v) g st sv vs ss := by
  have hg := h.gB
  refine ⟨by rw [size_setCell]; exact h.own.setCell ht v, ?_, ?_, ?_, ?_, grown_both h.grown _ _, by rwa [size_setCell]⟩
  · rw [World.cell?_setCell_other _ _ _ _ (by intro e; injection e with e1; exact hne e1)]; exact h.m0
  · rw [World.cell?_setCell_other _ _ _ _ (by intro e; injection e with e1; exact hne e1)]; exact h.m1
  · rw [World.frozen?_setCell]; exact h.f0
  · rw [World.frozen?_setCell]; exact h.f1
theorem AB.both {w2 wi : World} {b tb : Nat} {fin : Int} {av : Value} {l : List ArcL} (h : AB w2 wi b fin av l) (ht : tb < w2.heap.size) (hne : tb ≠ b) (v : Value) :
    AB (w2.setCell ⟨tb, 0, none⟩ v) (wi.setCell ⟨tb, 0, none⟩ v) b fin av l := by
  refine ⟨by rw [size_setCell]; exact h.own.setCell (own_base h.own ht) v, ?_, ?_, ?_, ?_, grown_both h.grown _ _, by rw [size_setCell]; exact h.gB⟩
  · rw [World.cell?_setCell_other _ _ _ _ (by intro e; injection e with e1; exact hne e1)]; exact h.s0
  · rw [World.cell?_setCell_other _ _ _ _ (by intro e; injection e with e1; exact hne e1)]; exact h.s1
  · rw [World.frozen?_setCell]; exact h.f0
  · rw [World.frozen?_setCell]; exact h.f1

/-- a machine's box at w's end, a flag behind it; the taker at tb may have moved -/
structure MT (w wr : World) (tb : Nat) (st : Int) (sv : Value) (vs : List Value) (ss : List StateL) : Prop where
  ex : ∃ w1, MB w1 wr w.heap.size st sv vs ss ∧ w.grownBy w1 (some tb) ∧ w1.heap.size = w.heap.size + 2 ∧ w1.cell? ⟨w.heap.size + 1, 0, none⟩ = some (.bool false) ∧ w1.frozen? ⟨w.heap.size + 1, 0, none⟩ = false
  tb : tb < w.heap.size
section
variable {w wr wx : World} {tb : Nat} {st : Int} {sv : Value} {vs : List Value} {ss : List StateL}
theorem MT.m0 (h : MT w wr tb st sv vs ss) : wr.cell? ⟨w.heap.size, 0, none⟩ = some (.int .i64 st) := let ⟨_, h1, _⟩ := h.ex; h1.m0
theorem MT.m1 (h : MT w wr tb st sv vs ss) : wr.cell? ⟨w.heap.size, 1, none⟩ = some sv := let ⟨_, h1, _⟩ := h.ex; h1.m1
theorem MT.f0 (h : MT w wr tb st sv vs ss) : wr.frozen? ⟨w.heap.size, 0, none⟩ = false := let ⟨_, h1, _⟩ := h.ex; h1.f0
theorem MT.f1 (h : MT w wr tb st sv vs ss) : wr.frozen? ⟨w.heap.size, 1, none⟩ = false := let ⟨_, h1, _⟩ := h.ex; h1.f1
theorem MT.k0 (h : MT w wr tb st sv vs ss) : wr.cell? ⟨w.heap.size + 1, 0, none⟩ = some (.bool false) := by
  obtain ⟨w1, h1, h2, h3, h4, h5⟩ := h.ex
  exact grown_cell h1.grown (by omega) h4
theorem MT.kf (h : MT w wr tb st sv vs ss) : wr.frozen? ⟨w.heap.size + 1, 0, none⟩ = false := by
  obtain ⟨w1, h1, h2, h3, h4, h5⟩ := h.ex
  exact grown_froz h1.grown (by omega) h4 h5
theorem MT.lt (h : MT w wr tb st sv vs ss) : w.heap.size + 1 < wr.heap.size := World.block_lt_of_cell? _ _ h.k0
theorem MT.grown (h : MT w wr tb st sv vs ss) : w.grownBy wr (some tb) := by
  obtain ⟨w1, h1, h2, h3, h4, h5⟩ := h.ex
  refine ⟨h1.grown.os.trans h2.os, h1.grown.tape.trans h2.tape, h1.grown.output.trans h2.output, Nat.le_trans h2.size h1.grown.size, fun k hk hne => ?_⟩
  rw [h1.grown.block k (Nat.lt_of_lt_of_le hk h2.size) (by simp; omega)]
  exact h2.block k hk hne
theorem MT.keep (h : MT w wr tb st sv vs ss) (hb : Below wr.heap.size wr wx) : MT w wx tb st sv vs ss := by
  obtain ⟨w1, h1, h2⟩ := h.ex
  exact ⟨⟨w1, h1.keep hb, h2⟩, h.tb⟩
theorem MT.both (h : MT w wr tb st sv vs ss) (v : Value) : MT w (wr.setCell ⟨tb, 0, none⟩ v) tb st sv vs ss := by
  obtain ⟨w1, h1, h2, h3, h4, h5⟩ := h.ex
  have ht := h.tb
  refine ⟨⟨w1.setCell ⟨tb, 0, none⟩ v, h1.both (by omega) (by omega) v, ?_, by rw [size_setCell]; exact h3, ?_, by rw [World.frozen?_setCell]; exact h5⟩, ht⟩
  · exact grown_then h2 (grown_set w1 tb 0 v)
  · rw [World.cell?_setCell_other _ _ _ _ (by intro e; injection e with e1; omega)]; exact h4
theorem MT.own (h : MT w wr tb st sv vs ss) : OwnStV wr (w.heap.size + 2) sv vs ss := by
  obtain ⟨w1, h1, h2, h3, h4, h5⟩ := h.ex
  rw [← h3]; exact h1.own
theorem MT.base (h : MT w wr tb st sv vs ss) : w.heap.size + 2 ≤ wr.heap.size := h.lt
theorem MT.app {w' : World} (h : MT w wr tb st sv vs ss) (s : StateL) {av : Value} (ha : OwnArcs wr (w.heap.size + 2) av s.arcs) {v' : Value} {k : Nat} (hk : k = ss.length + 1) (hg : wr.grownBy w' sv.ownBlock)
    (hx : w'.ownsRow (w.heap.size + 2) 51 2 v' k (statesCells ((ss.map (·.final)).zip vs) ++ [.int .i64 s.final, av])) :
    MT w (w'.setCell ⟨w.heap.size, 1, none⟩ v') tb st v' (vs ++ [av]) (ss ++ [s]) := by
  obtain ⟨w1, h1, h2, h3, h4, h5⟩ := h.ex
  rw [← h3] at ha hx
  exact ⟨⟨w1, h1.app s ha hk hg hx, h2, h3, h4, h5⟩, h.tb⟩
theorem MT.far {w' : World} (h : MT w wr tb st sv vs ss) (hg : wr.grownBy w' sv.ownBlock) :
    w'.cell? ⟨w.heap.size, 1, none⟩ = some sv ∧ w'.frozen? ⟨w.heap.size, 1, none⟩ = false ∧ w.heap.size < w'.heap.size := by
  obtain ⟨w1, h1, h2, h3, h4, h5⟩ := h.ex
  exact h1.far hg
theorem MT.form (h : MT w wr tb st sv vs ss) : ∃ A c, sv = .slice A ss.length c ∧ ss.length ≤ c ∧ c ≤ maxLen := own_form h.own.row
theorem MT.fresh (h : MT w wr tb st sv vs ss) : sv.ownBlock ≠ some tb := by have := h.tb; exact own_base h.own.row (by omega)
end
/-- and a state's box at b -/
structure AT (w wi : World) (tb b : Nat) (st : Int) (sv : Value) (vs : List Value) (ss : List StateL) (fin : Int) (av : Value) (l : List ArcL) : Prop where
  ex : ∃ wm wb, MT w wm tb st sv vs ss ∧ Below wm.heap.size wm wb ∧ wm.heap.size ≤ b ∧ AB wb wi b fin av l ∧ wb.heap.size = b + 1
section
variable {w wi wx : World} {tb b : Nat} {st : Int} {sv : Value} {vs : List Value} {ss : List StateL} {fin : Int} {av : Value} {l : List ArcL}
theorem AT.mt (h : AT w wi tb b st sv vs ss fin av l) : MT w wi tb st sv vs ss := by
  obtain ⟨wm, wb, h1, h2, h3, h4, h8⟩ := h.ex
  exact h1.keep (h4.below h2 h3)
theorem AT.keep (h : AT w wi tb b st sv vs ss fin av l) (hb : Below wi.heap.size wi wx) : AT w wx tb b st sv vs ss fin av l := by
  obtain ⟨wm, wb, h1, h2, h3, h4, h8⟩ := h.ex
  exact ⟨wm, wb, h1, h2, h3, h4.keep hb, h8⟩
theorem AT.both (h : AT w wi tb b st sv vs ss fin av l) (v : Value) : AT w (wi.setCell ⟨tb, 0, none⟩ v) tb b st sv vs ss fin av l := by
  obtain ⟨wm, wb, h1, h2, h3, h4, h8⟩ := h.ex
  have h5 := h1.tb; have h6 := h1.lt; have h7 := h2.size
  exact ⟨wm.setCell ⟨tb, 0, none⟩ v, wb.setCell ⟨tb, 0, none⟩ v, h1.both v, below_both h2 _ _, by rw [size_setCell]; exact h3, h4.both (by omega) (by omega) v, by rw [size_setCell]; exact h8⟩
theorem AT.s0 (h : AT w wi tb b st sv vs ss fin av l) : wi.cell? ⟨b, 0, none⟩ = some (.int .i64 fin) := let ⟨_, _, _, _, _, h4, _⟩ := h.ex; h4.s0
theorem AT.s1 (h : AT w wi tb b st sv vs ss fin av l) : wi.cell? ⟨b, 1, none⟩ = some av := let ⟨_, _, _, _, _, h4, _⟩ := h.ex; h4.s1
theorem AT.f0 (h : AT w wi tb b st sv vs ss fin av l) : wi.frozen? ⟨b, 0, none⟩ = false := let ⟨_, _, _, _, _, h4, _⟩ := h.ex; h4.f0
theorem AT.f1 (h : AT w wi tb b st sv vs ss fin av l) : wi.frozen? ⟨b, 1, none⟩ = false := let ⟨_, _, _, _, _, h4, _⟩ := h.ex; h4.f1
theorem AT.lt (h : AT w wi tb b st sv vs ss fin av l) : b < wi.heap.size := let ⟨_, _, _, _, _, h4, _⟩ := h.ex; h4.lt
theorem AT.bt (h : AT w wi tb b st sv vs ss fin av l) : w.heap.size + 2 ≤ b ∧ tb < b := by
  obtain ⟨wm, wb, h1, h2, h3, h4, h8⟩ := h.ex
  have := h1.tb; have := h1.lt
  omega
theorem AT.own (h : AT w wi tb b st sv vs ss fin av l) : OwnArcs wi (b + 1) av l := by
  obtain ⟨wm, wb, h1, h2, h3, h4, h8⟩ := h.ex
  rw [← h8]; exact h4.own
theorem AT.form (h : AT w wi tb b st sv vs ss fin av l) : ∃ A c, av = .slice A l.length c ∧ l.length ≤ c ∧ c ≤ maxLen := own_form h.own
theorem AT.far {w' : World} (h : AT w wi tb b st sv vs ss fin av l) (hg : wi.grownBy w' av.ownBlock) : w'.cell? ⟨b, 1, none⟩ = some av ∧ w'.frozen? ⟨b, 1, none⟩ = false ∧ b < w'.heap.size := by
  obtain ⟨wm, wb, h1, h2, h3, h4, h8⟩ := h.ex
  exact h4.far hg
/-- an arc put behind -/
theorem AT.app {w' : World} (h : AT w wi tb b st sv vs ss fin av l) (a : ArcL) {v' : Value} {k : Nat} (hk : k = l.length + 1) (hg : wi.grownBy w' av.ownBlock)
    (hx : w'.ownsRow (b + 1) 54 4 v' k (arcsCells l ++ arcCells a)) : AT w (w'.setCell ⟨b, 1, none⟩ v') tb b st sv vs ss fin v' (l ++ [a]) := by
  obtain ⟨wm, wb, h1, h2, h3, h4, h8⟩ := h.ex
  exact ⟨wm, wb, h1, h2, h3, h4.app a hk hg (by rw [h8]; exact hx), h8⟩
end
end Go.Proofs.YtajbfhdkghofbaaGreatDoor
