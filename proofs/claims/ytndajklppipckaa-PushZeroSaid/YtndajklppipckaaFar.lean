/- distance.far: its memory, and the closure that lays a state into the queue. -/
import Derived.Test.YtndajklppipckaaFarPlain
import Derived.Test.YtndajklppipckaaQueue
import Derived.Test.YtndajklppipckaaFlood
namespace Go.Proofs.Ytndajklppipckaa
open Go.RowKit

abbrev icellsA (l : List Int) : Array Value := (l.map (Value.int .i64)).toArray
theorem icellsA_get (l : List Int) (p : Nat) (h : p < l.length) : (icellsA l)[p]? = some (.int .i64 (l.getD p 0)) := by
  simp [icellsA, h, List.getD_eq_getElem?_getD]
theorem icellsA_set (l : List Int) (p : Nat) (x : Int) : (icellsA l).setIfInBounds p (.int .i64 x) = icellsA (l.set p x) := by
  simp [icellsA, List.map_set]

/-- a slice of edges reads as l -/
structure ERow (w : World) (A : Option Addr) (l : List (Nat × Int)) : Prop where
  rdy : Rdy A l.length
  c0 : ∀ i (h : i < l.length), w.cell? ⟨blk A, ofs A + i * 2, none⟩ = some (.int .i64 (l[i].1 : Nat))
  c1 : ∀ i (h : i < l.length), w.cell? ⟨blk A, ofs A + i * 2 + 1, none⟩ = some (.int .i64 l[i].2)
structure EdgesAt (w : World) (A : Option Addr) (E : Edges) : Prop where
  rdy : Rdy A E.length
  row : ∀ q (h : q < E.length), ∃ A' c, w.cell? ⟨blk A, ofs A + q, none⟩ = some (.slice A' E[q].length c) ∧ ERow w A' E[q]
theorem ERow.below {w w' : World} {A : Option Addr} {l : List (Nat × Int)} (h : ERow w A l) {B : Nat} (hb : Below B w w') (hB : w.heap.size ≤ B) : ERow w' A l :=
  ⟨h.rdy, fun i hi => cell_keep hb hB (h.c0 i hi), fun i hi => cell_keep hb hB (h.c1 i hi)⟩
theorem EdgesAt.below {w w' : World} {A : Option Addr} {E : Edges} (h : EdgesAt w A E) {B : Nat} (hb : Below B w w') (hB : w.heap.size ≤ B) : EdgesAt w' A E :=
  ⟨h.rdy, fun q hq => by
    obtain ⟨A', c, h1, h2⟩ := h.row q hq
    exact ⟨A', c, cell_keep hb hB h1, h2.below hb hB⟩⟩

/-- far under way; w: the world in which it was called -/
structure FW (w W : World) (n : Nat) (s : FSt) (tv : Value) : Prop where
  wl : s.wait.length = n
  cl : s.cost.length = n
  cb : Blk W w.heap.size (icellsA s.cost) 3
  tb : Blk W (w.heap.size + 1) #[tv] 38
  wb : Blk W (w.heap.size + 2) (bcells s.wait) 4
  xb : Blk W (w.heap.size + 3) #[.slice (some ⟨w.heap.size + 2, 0, none⟩) n n] 199
  own : OwnsQ W (w.heap.size + 4) 3 tv s.todo.length (ncells s.todo)
  bel : Below w.heap.size w W

section
variable {w W W' : World} {n : Nat} {s : FSt} {tv : Value}
theorem FW.keep (h : FW w W n s tv) (hb : Below W.heap.size W W') : FW w W' n s tv :=
  ⟨h.wl, h.cl, h.cb.step hb, h.tb.step hb, h.wb.step hb, h.xb.step hb, h.own.keep hb, Below.step h.bel hb⟩
theorem below_drewN (W : World) (k : Nat) : Below W.heap.size W (W.drewN k) := ⟨rfl, rfl, rfl, Nat.le_refl _, fun _ _ => rfl⟩
theorem FW.setCost (h : FW w W n s tv) (p : Nat) (c : Int) : FW w (W.setCell ⟨w.heap.size, p, none⟩ (.int .i64 c)) n { s with cost := s.cost.set p c } tv :=
  ⟨h.wl, by simpa using h.cl, by have := h.cb.put p (.int .i64 c); rw [icellsA_set] at this; exact this, h.tb.far (by simp) _, h.wb.far (by simp) _, h.xb.far (by simp) _, h.own.far (h.own.ne (by simp)) _, h.bel.setCell (by simp) _⟩
theorem FW.pop {q g o m A2 c2 c3} {cost : List Int} {wait : List Bool} {t : List Nat} (h : FW w W n ⟨cost, wait, q :: t⟩ (.slice (some ⟨g, o, none⟩) (m + 1) c3)) (hm : t.length = m) (hq : OwnsQ W (w.heap.size + 4) 3 (.slice A2 m c2) m (ncells t)) :
    FW w ((W.setCell ⟨w.heap.size + 1, 0, none⟩ (.slice A2 m c2)).setCell ⟨w.heap.size + 2, q, none⟩ (.bool false)) n (FSt.pop ⟨cost, wait, q :: t⟩ q t) (.slice A2 m c2) :=
  ⟨by simpa [FSt.pop] using h.wl, h.cl, (h.cb.far (by simp) _).far (by simp) _, ((h.tb.put 0 _).far (by simp) _).eq (by simp), by
    have := (h.wb.far (a := ⟨w.heap.size + 1, 0, none⟩) (by simp) (.slice A2 m c2)).put q (.bool false)
    rw [bcells_set] at this; exact this, (h.xb.far (by simp) _).far (by simp) _, by
    subst hm
    exact (hq.far (hq.ne (by simp)) _).far (hq.ne (by simp)) _, (h.bel.setCell (by simp) _).setCell (by simp) _⟩
theorem FW.ne (h : FW w W n s tv) {b : Nat} (hb : b < w.heap.size + 4) : tv.ownBlock ≠ some b := h.own.ne hb
end

set_option maxRecDepth 100000 in
set_option maxHeartbeats 4000000 in
theorem put_any (w W : World) (n : Nat) (s : FSt) (tv : Value) (h : FW w W n s tv) (p : Nat) (hp : p < n) (hn : n ≤ 1000) (ht : s.todo.length ≤ 1000) :
    Calls Try.prog 89 #[.int .i64 p, .pointer (some ⟨w.heap.size + 3, 0, none⟩), .pointer (some ⟨w.heap.size + 1, 0, none⟩)] W fun e w' => e = .returned (.tuple #[]) ∧ ∃ tv', FW w w' n (s.put p) tv' := by
  obtain ⟨cost, seen, todo⟩ := s
  have H := Lib.hid h
  have hl := h.wl
  have k1 := h.wb.cell p
  simp only at hl
  rw [bcells_get _ _ (by simpa [hl] using hp)] at k1
  have k2 := h.xb.cell; have k3 := h.tb.cell; have k4 := h.wb.froz; have k5 := h.tb.froz
  have i0 : (0 : Int) ≤ ↑p := by omega
  have i1 : (↑p : Int) < ↑n := by omega
  have l1 := h.wb.lt; have l2 := h.xb.lt; have l3 := h.tb.lt
  have hnb : n ≤ 9223372036854775807 := by omega
  simp only at k1 ht
  clear h
  by_cases hs : seen.getD p true = true
  · rw [hs] at k1
    have HV := Lib.hid (show FSt.put ⟨cost, seen, todo⟩ p = ⟨cost, seen, todo⟩ by unfold FSt.put; rw [if_pos hs])
    clear hs
    go_enter Try.func89, Try.ntmps89
    go_wp2_with fail
    go_end0
    exact ⟨rfl, tv, by rw [HV.out]; exact H.out⟩
  · have hs' : seen.getD p true = false := by simpa using hs
    rw [hs'] at k1
    have HV := Lib.hid (show FSt.put ⟨cost, seen, todo⟩ p = ⟨cost, seen.set p true, todo ++ [p]⟩ by unfold FSt.put; rw [if_neg hs])
    have HO := Lib.hid (H.out.own.far (a := ⟨w.heap.size + 2, p, none⟩) (H.out.ne (by simp)) (.bool true))
    have T1 := Lib.hid (H.out.tb.far (a := ⟨w.heap.size + 2, p, none⟩) (by simp) (.bool true))
    clear hs hs'
    go_enter Try.func89, Try.ntmps89
    go_wp2_with (at_builtin; refine wpList_queue1 rfl _ _ rfl eltInt (w.heap.size + 4) tv todo.length (ncells todo) rfl (W.setCell ⟨w.heap.size + 2, p, none⟩ (.bool true)) HO.out (.int .i64 p) rfl W.heap.size (by simp) rfl (by simp [Value.oneCell']) (by omega) (by omega) (by simp; omega) ?_; intro v3 w3 ho3 hg3 hat3; have k6 := (T1.out.grown hg3 (H.out.ne (b := w.heap.size + 1) (by omega)).symm).cell; have k7 := (T1.out.grown hg3 (H.out.ne (b := w.heap.size + 1) (by omega)).symm).froz; have l6 := (T1.out.grown hg3 (H.out.ne (b := w.heap.size + 1) (by omega)).symm).lt; obtain ⟨A3, c3, rfl, -, -, -⟩ := ho3.form)
    go_end0
    refine ⟨rfl, .slice A3 (todo.length + 1) c3, ?_⟩
    rw [HV.out]
    have hne : ∀ b, b < w.heap.size + 4 → some b ≠ tv.ownBlock := fun b hb => (H.out.ne hb).symm
    refine ⟨by simpa using hl, H.out.cl, ?_, ?_, ?_, ?_, ?_, ?_⟩
    · exact ((H.out.cb.far (by simp) _).grown hg3 (hne _ (by omega))).far (by simp) _
    · exact ((T1.out.grown hg3 (hne _ (by omega))).put 0 _).eq (by simp)
    · have h1 := H.out.wb.put p (.bool true)
      rw [bcells_set] at h1
      exact (h1.grown hg3 (hne _ (by omega))).far (by simp) _
    · exact ((H.out.xb.far (by simp) _).grown hg3 (hne _ (by omega))).far (by simp) _
    · have h1 := ho3.far (a := ⟨w.heap.size + 1, 0, none⟩) (ho3.ne (by simp)) (.slice A3 (todo.length + 1) c3)
      rw [ncells_snoc, List.length_append]
      exact h1
    · refine Below.setCell ?_ (by simp) _
      have h1 : Below w.heap.size w (W.setCell ⟨w.heap.size + 2, p, none⟩ (.bool true)) := H.out.bel.setCell (by simp) _
      refine h1.grown hg3 (by have := H.out.bel.size; simp [World.setCell]; exact this) (fun k hk => ?_)
      have := (H.out.own.lt k hk).1; omega
end Go.Proofs.Ytndajklppipckaa
