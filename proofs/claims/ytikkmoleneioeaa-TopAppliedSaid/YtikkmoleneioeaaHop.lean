/- compose's hop. -/
/- compose's expand$1 and moves. -/
/- compose's expand, both and Expand. -/
/- compose.Compose's memory. -/
import Derived.Test.YtikkmoleneioeaaComposeLoop
import Derived.Test.YtikkmoleneioeaaPick
import Derived.Test.YtikkmoleneioeaaNum
import Derived.Test.YtikkmoleneioeaaSlices
import Derived.StillTailTactics
import Derived.Deep.DeepCutAuto
import Derived.BigQuiet
import Derived.IntWalk
import Derived.LoopTactic
import Derived.Test.YtikkmoleneioeaaHeap2
import Derived.Test.YtikkmoleneioeaaValid
import Derived.Deep.LoopGhost
import Derived.Deep.CutBlock
import Derived.Carry
namespace Go.Proofs.Ytikkmoleneioeaa
open Go.RowKit

abbrev hopV (h : HopL) : Value := .agg #[.int .i64 h.inn, .int .i64 h.out, .int .i64 h.wt, .int .i64 h.goes.a, .int .i64 h.goes.b, .int .i64 h.goes.f]
/-- an arc in memory, at an address -/
structure ArcCells (w : World) (b o : Nat) (x : ArcL) : Prop where
  c0 : w.cell? ⟨b, o, none⟩ = some (.int .i64 x.inn)
  c1 : w.cell? ⟨b, o + 1, none⟩ = some (.int .i64 x.out)
  c2 : w.cell? ⟨b, o + 2, none⟩ = some (.int .i64 x.wt)
  c3 : w.cell? ⟨b, o + 3, none⟩ = some (.int .i64 x.to)
  lt : b < w.heap.size
theorem ArcCells.step {w w' : World} {b o : Nat} {x : ArcL} (h : ArcCells w b o x) {B : Nat} (hb : Below B w w') (hB : w.heap.size ≤ B) : ArcCells w' b o x :=
  ⟨cell_keep hb hB h.c0, cell_keep hb hB h.c1, cell_keep hb hB h.c2, cell_keep hb hB h.c3, Nat.lt_of_lt_of_le h.lt hb.size⟩

set_option maxRecDepth 100000 in
set_option maxHeartbeats 4000000 in
theorem hop_left (p1 p2 p3 p4 : Value) (t : TriL) (b o : Nat) (x : ArcL) (n : Int) (w : World) (hx : ArcCells w b o x) (hv : ValidArc n x) :
    Calls Try.prog 57 #[.agg #[p1, p2, p3, p4], triV t, .pointer (some ⟨b, o, none⟩), .pointer none, .int .i64 1] w fun e w' => e = .returned (.tuple #[hopV (hopLt t x), .int .i64 0]) ∧ Below w.heap.size w w' := by
  have HX := Lib.hid hx
  have hto := hv.t0
  obtain ⟨tn, htn⟩ : ∃ tn : Nat, x.to = tn := ⟨x.to.toNat, by omega⟩
  have HE : Hid (hopV (hopLt t x) = .agg #[.int .i64 x.inn, .int .i64 0, .int .i64 x.wt, .int .i64 tn, .int .i64 t.b, .int .i64 1]) := Lib.hid (by simp [hopLt, htn])
  rw [HE.out]
  have c0 := hx.c0; have c1 := hx.c1; have c2 := hx.c2; have c3 := hx.c3; have lx := hx.lt
  rw [htn] at c3
  unfold triV
  clear hx hv hto htn HE
  go_enter Try.func57, Try.ntmps57
  go_upto_region 4 with fail
  have Z0 : Blk ((((w.alloc (.cells #[p1, p2, p3, p4] 89)).alloc (.cells #[.int .i64 t.a, .int .i64 t.b, .int .i64 t.f] 83)).alloc (.cells #[.int .i64 0, .int .i64 0, .int .i64 0, .int .i64 0, .int .i64 0, .int .i64 0] 92)).alloc (.cells #[.int .i64 0, .int .i64 0, .int .i64 0, .int .i64 t.a, .int .i64 t.b, .int .i64 1] 92)) (w.heap.size + 1 + 1) _ _ := (Blk.new' (by simp)).alloc _
  have Z1 : Blk ((((w.alloc (.cells #[p1, p2, p3, p4] 89)).alloc (.cells #[.int .i64 t.a, .int .i64 t.b, .int .i64 t.f] 83)).alloc (.cells #[.int .i64 0, .int .i64 0, .int .i64 0, .int .i64 0, .int .i64 0, .int .i64 0] 92)).alloc (.cells #[.int .i64 0, .int .i64 0, .int .i64 0, .int .i64 t.a, .int .i64 t.b, .int .i64 1] 92)) (w.heap.size + 1 + 1 + 1) _ _ := Blk.new' (by simp)
  have bel : Below w.heap.size w ((((w.alloc (.cells #[p1, p2, p3, p4] 89)).alloc (.cells #[.int .i64 t.a, .int .i64 t.b, .int .i64 t.f] 83)).alloc (.cells #[.int .i64 0, .int .i64 0, .int .i64 0, .int .i64 0, .int .i64 0, .int .i64 0] 92)).alloc (.cells #[.int .i64 0, .int .i64 0, .int .i64 0, .int .i64 t.a, .int .i64 t.b, .int .i64 1] 92)) := (by repeat' (first | exact Below.refl _ _ | assumption | refine Below.drew ?_ | refine Below.alloc ?_ (by first | omega | (simp; done) | (simp; omega)) _ | refine Below.setCell ?_ (by first | omega | (simp; done) | (simp; omega)) _))
  have d0 := cell_keep bel (Nat.le_refl _) c0; have d1 := cell_keep bel (Nat.le_refl _) c1; have d2 := cell_keep bel (Nat.le_refl _) c2; have d3 := cell_keep bel (Nat.le_refl _) c3
  generalize (((w.alloc (.cells #[p1, p2, p3, p4] 89)).alloc (.cells #[.int .i64 t.a, .int .i64 t.b, .int .i64 t.f] 83)).alloc (.cells #[.int .i64 0, .int .i64 0, .int .i64 0, .int .i64 0, .int .i64 0, .int .i64 0] 92)).alloc (.cells #[.int .i64 0, .int .i64 0, .int .i64 0, .int .i64 t.a, .int .i64 t.b, .int .i64 1] 92) = W at *
  have g1 : w.heap.size ≤ w.heap.size + 1 + 1 := by omega
  have g2 : w.heap.size ≤ w.heap.size + 1 + 1 + 1 := by omega
  have g3 : w.heap.size + 1 + 1 ≠ w.heap.size + 1 + 1 + 1 := by omega
  generalize w.heap.size + 1 + 1 + 1 = h1 at *
  generalize w.heap.size + 1 + 1 = h0 at *
  have k0 := Z0.cell; have k1 := Z1.cell; have e0 := Z0.froz; have e1 := Z1.froz; have l0 := Z0.lt; have l1 := Z1.lt
  have lb := Nat.lt_of_lt_of_le lx bel.size
  clear c0 c1 c2 c3
  go_region
  have Z2 : Blk ((W.setCell ⟨h1, 0, none⟩ (.int .i64 x.inn)).setCell ⟨h1, 3, none⟩ (.int .i64 tn)).drew h1 #[.int .i64 x.inn, .int .i64 0, .int .i64 0, .int .i64 tn, .int .i64 t.b, .int .i64 1] 92 := ((Z1.put 0 _).put 3 _).drew.eq (by simp)
  have Y2 := (((Z0.far (a := ⟨h1, 0, none⟩) g3 (.int .i64 x.inn)).far (a := ⟨h1, 3, none⟩) g3 (.int .i64 tn)).drew)
  have bel2 : Below w.heap.size w ((W.setCell ⟨h1, 0, none⟩ (.int .i64 x.inn)).setCell ⟨h1, 3, none⟩ (.int .i64 tn)).drew := ((bel.setCell g2 _).setCell g2 _).drew
  clear k0 k1 e0 e1 l0 l1 lb d0 d1 d2 d3 Z0 Z1 bel
  generalize ((W.setCell ⟨h1, 0, none⟩ (.int .i64 x.inn)).setCell ⟨h1, 3, none⟩ (.int .i64 tn)).drew = W2 at *
  have k0 := Y2.cell; have k1 := Z2.cell; have e0 := Y2.froz; have e1 := Z2.froz; have l0 := Y2.lt; have l1 := Z2.lt
  go_upto_region 12 with fail
  have Z3 := (Z2.put 2 (.int .i64 x.wt)).eq (show _ = #[.int .i64 x.inn, .int .i64 0, .int .i64 x.wt, .int .i64 tn, .int .i64 t.b, .int .i64 1] by simp)
  have Y3 := Y2.far (a := ⟨h1, 2, none⟩) g3 (.int .i64 x.wt)
  have bel3 : Below w.heap.size w (W2.setCell ⟨h1, 2, none⟩ (.int .i64 x.wt)) := bel2.setCell g2 _
  clear k0 k1 e0 e1 l0 l1 Z2 Y2 bel2
  generalize W2.setCell ⟨h1, 2, none⟩ (.int .i64 x.wt) = W3 at *
  have k0 := Y3.cell; have k1 := Z3.cell; have e0 := Y3.froz; have e1 := Z3.froz; have l0 := Y3.lt; have l1 := Z3.lt
  go_wp2_with fail
  have Z4 := ((((((Y3.put 0 (.int .i64 x.inn)).put 1 (.int .i64 0)).put 2 (.int .i64 x.wt)).put 3 (.int .i64 tn)).put 4 (.int .i64 t.b)).put 5 (.int .i64 1)).eq (show _ = #[.int .i64 x.inn, .int .i64 0, .int .i64 x.wt, .int .i64 tn, .int .i64 t.b, .int .i64 1] by simp)
  have bel4 : Below w.heap.size w ((((((W3.setCell ⟨h0, 0, none⟩ (.int .i64 x.inn)).setCell ⟨h0, 1, none⟩ (.int .i64 0)).setCell ⟨h0, 2, none⟩ (.int .i64 x.wt)).setCell ⟨h0, 3, none⟩ (.int .i64 tn)).setCell ⟨h0, 4, none⟩ (.int .i64 t.b)).setCell ⟨h0, 5, none⟩ (.int .i64 1)) := (((((bel3.setCell g1 _).setCell g1 _).setCell g1 _).setCell g1 _).setCell g1 _).setCell g1 _
  clear k0 k1 e0 e1 l0 l1 Z3 Y3 bel3
  generalize ((((((W3.setCell ⟨h0, 0, none⟩ (.int .i64 x.inn)).setCell ⟨h0, 1, none⟩ (.int .i64 0)).setCell ⟨h0, 2, none⟩ (.int .i64 x.wt)).setCell ⟨h0, 3, none⟩ (.int .i64 tn)).setCell ⟨h0, 4, none⟩ (.int .i64 t.b)).setCell ⟨h0, 5, none⟩ (.int .i64 1)) = W4 at *
  have k0 := Z4.cell; have l0 := Z4.lt
  refine bodyPost_ret (v := .tuple #[.agg #[.int .i64 x.inn, .int .i64 0, .int .i64 x.wt, .int .i64 tn, .int .i64 t.b, .int .i64 1], .int .i64 0]) (by simp [results, Try.results57, go_sem, *]) rfl ⟨rfl, bel4⟩

set_option maxRecDepth 100000 in
set_option maxHeartbeats 4000000 in
theorem hop_right (p1 p2 p3 p4 : Value) (t : TriL) (b o : Nat) (y : ArcL) (n : Int) (w : World) (hy : ArcCells w b o y) (hv : ValidArc n y) :
    Calls Try.prog 57 #[.agg #[p1, p2, p3, p4], triV t, .pointer none, .pointer (some ⟨b, o, none⟩), .int .i64 2] w fun e w' => e = .returned (.tuple #[hopV (hopR t y), .int .i64 0]) ∧ Below w.heap.size w w' := by
  have hto := hv.t0; have w0 := hv.w0; have w1 := hv.w1
  obtain ⟨yn, hyn⟩ : ∃ yn : Nat, y.to = yn := ⟨y.to.toNat, by omega⟩
  have HE : Hid (hopV (hopR t y) = .agg #[.int .i64 0, .int .i64 y.out, .int .i64 y.wt, .int .i64 t.a, .int .i64 yn, .int .i64 2]) := Lib.hid (by simp [hopR, hyn])
  have TM := Lib.hid (fun W => Times_ok 0 y.wt W (by omega) (by omega) w0 w1 (by omega))
  rw [Int.zero_add] at TM
  rw [HE.out]
  have c0 := hy.c0; have c1 := hy.c1; have c2 := hy.c2; have c3 := hy.c3; have lx := hy.lt
  rw [hyn] at c3
  unfold triV
  clear hy hv hto hyn HE w0 w1
  go_enter Try.func57, Try.ntmps57
  go_upto_region 6 with fail
  have Z0 : Blk ((((w.alloc (.cells #[p1, p2, p3, p4] 89)).alloc (.cells #[.int .i64 t.a, .int .i64 t.b, .int .i64 t.f] 83)).alloc (.cells #[.int .i64 0, .int .i64 0, .int .i64 0, .int .i64 0, .int .i64 0, .int .i64 0] 92)).alloc (.cells #[.int .i64 0, .int .i64 0, .int .i64 0, .int .i64 t.a, .int .i64 t.b, .int .i64 2] 92)) (w.heap.size + 1 + 1) _ _ := (Blk.new' (by simp)).alloc _
  have Z1 : Blk ((((w.alloc (.cells #[p1, p2, p3, p4] 89)).alloc (.cells #[.int .i64 t.a, .int .i64 t.b, .int .i64 t.f] 83)).alloc (.cells #[.int .i64 0, .int .i64 0, .int .i64 0, .int .i64 0, .int .i64 0, .int .i64 0] 92)).alloc (.cells #[.int .i64 0, .int .i64 0, .int .i64 0, .int .i64 t.a, .int .i64 t.b, .int .i64 2] 92)) (w.heap.size + 1 + 1 + 1) _ _ := Blk.new' (by simp)
  have bel : Below w.heap.size w ((((w.alloc (.cells #[p1, p2, p3, p4] 89)).alloc (.cells #[.int .i64 t.a, .int .i64 t.b, .int .i64 t.f] 83)).alloc (.cells #[.int .i64 0, .int .i64 0, .int .i64 0, .int .i64 0, .int .i64 0, .int .i64 0] 92)).alloc (.cells #[.int .i64 0, .int .i64 0, .int .i64 0, .int .i64 t.a, .int .i64 t.b, .int .i64 2] 92)) := (by repeat' (first | exact Below.refl _ _ | assumption | refine Below.drew ?_ | refine Below.alloc ?_ (by first | omega | (simp; done) | (simp; omega)) _ | refine Below.setCell ?_ (by first | omega | (simp; done) | (simp; omega)) _))
  have c0' := cell_keep bel (Nat.le_refl _) c0
  have c1' := cell_keep bel (Nat.le_refl _) c1
  have c2' := cell_keep bel (Nat.le_refl _) c2
  have c3' := cell_keep bel (Nat.le_refl _) c3
  generalize (((w.alloc (.cells #[p1, p2, p3, p4] 89)).alloc (.cells #[.int .i64 t.a, .int .i64 t.b, .int .i64 t.f] 83)).alloc (.cells #[.int .i64 0, .int .i64 0, .int .i64 0, .int .i64 0, .int .i64 0, .int .i64 0] 92)).alloc (.cells #[.int .i64 0, .int .i64 0, .int .i64 0, .int .i64 t.a, .int .i64 t.b, .int .i64 2] 92) = W at *
  have g1 : w.heap.size ≤ w.heap.size + 1 + 1 := by omega
  have g2 : w.heap.size ≤ w.heap.size + 1 + 1 + 1 := by omega
  have g3 : w.heap.size + 1 + 1 ≠ w.heap.size + 1 + 1 + 1 := by omega
  generalize w.heap.size + 1 + 1 + 1 = h1 at *
  generalize w.heap.size + 1 + 1 = h0 at *
  have k0 := Z0.cell; have k1 := Z1.cell; have e0 := Z0.froz; have e1 := Z1.froz; have l0 := Z0.lt; have l1 := Z1.lt
  have lb := Nat.lt_of_lt_of_le lx bel.size
  clear c0 c1 c2 c3
  go_region
  have Z2 : Blk ((W.setCell ⟨h1, 1, none⟩ (.int .i64 y.out)).setCell ⟨h1, 4, none⟩ (.int .i64 yn)).drew h1 #[.int .i64 0, .int .i64 y.out, .int .i64 0, .int .i64 t.a, .int .i64 yn, .int .i64 2] 92 := ((Z1.put 1 _).put 4 _).drew.eq (by simp)
  have Y2 := (((Z0.far (a := ⟨h1, 1, none⟩) g3 (.int .i64 y.out)).far (a := ⟨h1, 4, none⟩) g3 (.int .i64 yn)).drew)
  have bel2 : Below w.heap.size w ((W.setCell ⟨h1, 1, none⟩ (.int .i64 y.out)).setCell ⟨h1, 4, none⟩ (.int .i64 yn)).drew := ((bel.setCell g2 _).setCell g2 _).drew
  have cw : (((W.setCell ⟨h1, 1, none⟩ (.int .i64 y.out)).setCell ⟨h1, 4, none⟩ (.int .i64 yn)).drew).cell? ⟨b, o + 2, none⟩ = some (.int .i64 y.wt) := cell_far _ (cell_far _ c2' (by intro e; simp at e <;> omega)) (by intro e; simp at e <;> omega)
  have lw : b < (((W.setCell ⟨h1, 1, none⟩ (.int .i64 y.out)).setCell ⟨h1, 4, none⟩ (.int .i64 yn)).drew).heap.size := by simpa [World.setCell, World.drew] using lb
  clear k0 k1 e0 e1 l0 l1 lb c0' c1' c2' c3' Z0 Z1 bel
  generalize ((W.setCell ⟨h1, 1, none⟩ (.int .i64 y.out)).setCell ⟨h1, 4, none⟩ (.int .i64 yn)).drew = W2 at *
  have k0 := Y2.cell; have k1 := Z2.cell; have e0 := Y2.froz; have e1 := Z2.froz; have l0 := Y2.lt; have l1 := Z2.lt
  go_wp2_with fail
  refine (TM.out _).mono ?_; rintro e w' ⟨rfl, rfl⟩
  go_upto_region 12 with fail
  have Z3 := (Z2.put 2 (.int .i64 y.wt)).eq (show _ = #[.int .i64 0, .int .i64 y.out, .int .i64 y.wt, .int .i64 t.a, .int .i64 yn, .int .i64 2] by simp)
  have Y3 := Y2.far (a := ⟨h1, 2, none⟩) g3 (.int .i64 y.wt)
  have bel3 : Below w.heap.size w (W2.setCell ⟨h1, 2, none⟩ (.int .i64 y.wt)) := bel2.setCell g2 _
  clear k0 k1 e0 e1 l0 l1 Z2 Y2 bel2
  generalize W2.setCell ⟨h1, 2, none⟩ (.int .i64 y.wt) = W3 at *
  have k0 := Y3.cell; have k1 := Z3.cell; have e0 := Y3.froz; have e1 := Z3.froz; have l0 := Y3.lt; have l1 := Z3.lt
  go_wp2_with fail
  have Z4 := ((((((Y3.put 0 (.int .i64 0)).put 1 (.int .i64 y.out)).put 2 (.int .i64 y.wt)).put 3 (.int .i64 t.a)).put 4 (.int .i64 yn)).put 5 (.int .i64 2)).eq (show _ = #[.int .i64 0, .int .i64 y.out, .int .i64 y.wt, .int .i64 t.a, .int .i64 yn, .int .i64 2] by simp)
  have bel4 : Below w.heap.size w ((((((W3.setCell ⟨h0, 0, none⟩ (.int .i64 0)).setCell ⟨h0, 1, none⟩ (.int .i64 y.out)).setCell ⟨h0, 2, none⟩ (.int .i64 y.wt)).setCell ⟨h0, 3, none⟩ (.int .i64 t.a)).setCell ⟨h0, 4, none⟩ (.int .i64 yn)).setCell ⟨h0, 5, none⟩ (.int .i64 2)) := (((((bel3.setCell g1 _).setCell g1 _).setCell g1 _).setCell g1 _).setCell g1 _).setCell g1 _
  clear k0 k1 e0 e1 l0 l1 Z3 Y3 bel3
  generalize ((((((W3.setCell ⟨h0, 0, none⟩ (.int .i64 0)).setCell ⟨h0, 1, none⟩ (.int .i64 y.out)).setCell ⟨h0, 2, none⟩ (.int .i64 y.wt)).setCell ⟨h0, 3, none⟩ (.int .i64 t.a)).setCell ⟨h0, 4, none⟩ (.int .i64 yn)).setCell ⟨h0, 5, none⟩ (.int .i64 2)) = W4 at *
  have k0 := Z4.cell; have l0 := Z4.lt
  refine bodyPost_ret (v := .tuple #[.agg #[.int .i64 0, .int .i64 y.out, .int .i64 y.wt, .int .i64 t.a, .int .i64 yn, .int .i64 2], .int .i64 0]) (by simp [results, Try.results57, go_sem, *]) rfl ⟨rfl, bel4⟩

set_option maxRecDepth 100000 in
set_option maxHeartbeats 4000000 in
theorem hop_both (p1 p2 p3 p4 : Value) (t : TriL) (b o b2 o2 : Nat) (x y : ArcL) (n n2 : Int) (w : World) (hx : ArcCells w b o x) (hvx : ValidArc n x) (hy : ArcCells w b2 o2 y) (hv : ValidArc n2 y) (hw : x.wt + y.wt ≤ 1000000000) :
    Calls Try.prog 57 #[.agg #[p1, p2, p3, p4], triV t, .pointer (some ⟨b, o, none⟩), .pointer (some ⟨b2, o2, none⟩), .int .i64 0] w fun e w' => e = .returned (.tuple #[hopV (hopB x y), .int .i64 0]) ∧ Below w.heap.size w w' := by
  have hto := hv.t0; have w0 := hv.w0; have w1 := hv.w1
  have hto2 := hvx.t0; have w02 := hvx.w0; have w12 := hvx.w1
  obtain ⟨yn, hyn⟩ : ∃ yn : Nat, y.to = yn := ⟨y.to.toNat, by omega⟩
  obtain ⟨tn, htn⟩ : ∃ tn : Nat, x.to = tn := ⟨x.to.toNat, by omega⟩
  have HE : Hid (hopV (hopB x y) = .agg #[.int .i64 x.inn, .int .i64 y.out, .int .i64 (x.wt + y.wt), .int .i64 tn, .int .i64 yn, .int .i64 0]) := Lib.hid (by simp [hopB, hyn, htn])
  have TM := Lib.hid (fun W => Times_ok x.wt y.wt W w02 w12 w0 w1 hw)
  rw [HE.out]
  have c0 := hx.c0; have c1 := hx.c1; have c2 := hx.c2; have c3 := hx.c3; have lx := hx.lt
  have d0 := hy.c0; have d1 := hy.c1; have d2 := hy.c2; have d3 := hy.c3; have ly := hy.lt
  rw [htn] at c3
  rw [hyn] at d3
  unfold triV
  clear hy hv hto hyn HE w0 w1 hx hvx hto2 htn w02 w12 hw
  go_enter Try.func57, Try.ntmps57
  go_upto_region 4 with fail
  have Z0 : Blk ((((w.alloc (.cells #[p1, p2, p3, p4] 89)).alloc (.cells #[.int .i64 t.a, .int .i64 t.b, .int .i64 t.f] 83)).alloc (.cells #[.int .i64 0, .int .i64 0, .int .i64 0, .int .i64 0, .int .i64 0, .int .i64 0] 92)).alloc (.cells #[.int .i64 0, .int .i64 0, .int .i64 0, .int .i64 t.a, .int .i64 t.b, .int .i64 0] 92)) (w.heap.size + 1 + 1) _ _ := (Blk.new' (by simp)).alloc _
  have Z1 : Blk ((((w.alloc (.cells #[p1, p2, p3, p4] 89)).alloc (.cells #[.int .i64 t.a, .int .i64 t.b, .int .i64 t.f] 83)).alloc (.cells #[.int .i64 0, .int .i64 0, .int .i64 0, .int .i64 0, .int .i64 0, .int .i64 0] 92)).alloc (.cells #[.int .i64 0, .int .i64 0, .int .i64 0, .int .i64 t.a, .int .i64 t.b, .int .i64 0] 92)) (w.heap.size + 1 + 1 + 1) _ _ := Blk.new' (by simp)
  have bel : Below w.heap.size w ((((w.alloc (.cells #[p1, p2, p3, p4] 89)).alloc (.cells #[.int .i64 t.a, .int .i64 t.b, .int .i64 t.f] 83)).alloc (.cells #[.int .i64 0, .int .i64 0, .int .i64 0, .int .i64 0, .int .i64 0, .int .i64 0] 92)).alloc (.cells #[.int .i64 0, .int .i64 0, .int .i64 0, .int .i64 t.a, .int .i64 t.b, .int .i64 0] 92)) := (by repeat' (first | exact Below.refl _ _ | assumption | refine Below.drew ?_ | refine Below.alloc ?_ (by first | omega | (simp; done) | (simp; omega)) _ | refine Below.setCell ?_ (by first | omega | (simp; done) | (simp; omega)) _))
  have c0' := cell_keep bel (Nat.le_refl _) c0
  have c1' := cell_keep bel (Nat.le_refl _) c1
  have c2' := cell_keep bel (Nat.le_refl _) c2
  have c3' := cell_keep bel (Nat.le_refl _) c3
  have d0' := cell_keep bel (Nat.le_refl _) d0
  have d1' := cell_keep bel (Nat.le_refl _) d1
  have d2' := cell_keep bel (Nat.le_refl _) d2
  have d3' := cell_keep bel (Nat.le_refl _) d3
  generalize (((w.alloc (.cells #[p1, p2, p3, p4] 89)).alloc (.cells #[.int .i64 t.a, .int .i64 t.b, .int .i64 t.f] 83)).alloc (.cells #[.int .i64 0, .int .i64 0, .int .i64 0, .int .i64 0, .int .i64 0, .int .i64 0] 92)).alloc (.cells #[.int .i64 0, .int .i64 0, .int .i64 0, .int .i64 t.a, .int .i64 t.b, .int .i64 0] 92) = W at *
  have g1 : w.heap.size ≤ w.heap.size + 1 + 1 := by omega
  have g2 : w.heap.size ≤ w.heap.size + 1 + 1 + 1 := by omega
  have g3 : w.heap.size + 1 + 1 ≠ w.heap.size + 1 + 1 + 1 := by omega
  generalize w.heap.size + 1 + 1 + 1 = h1 at *
  generalize w.heap.size + 1 + 1 = h0 at *
  have k0 := Z0.cell; have k1 := Z1.cell; have e0 := Z0.froz; have e1 := Z1.froz; have l0 := Z0.lt; have l1 := Z1.lt
  have lb := Nat.lt_of_lt_of_le lx bel.size
  have lb2 := Nat.lt_of_lt_of_le ly bel.size
  clear c0 c1 c2 c3 d0 d1 d2 d3
  go_region
  have Z9 : Blk ((W.setCell ⟨h1, 0, none⟩ (.int .i64 x.inn)).setCell ⟨h1, 3, none⟩ (.int .i64 tn)).drew h1 #[.int .i64 x.inn, .int .i64 0, .int .i64 0, .int .i64 tn, .int .i64 t.b, .int .i64 0] 92 := ((Z1.put 0 _).put 3 _).drew.eq (by simp)
  have Y9 := (((Z0.far (a := ⟨h1, 0, none⟩) g3 (.int .i64 x.inn)).far (a := ⟨h1, 3, none⟩) g3 (.int .i64 tn)).drew)
  have bel9 : Below w.heap.size w ((W.setCell ⟨h1, 0, none⟩ (.int .i64 x.inn)).setCell ⟨h1, 3, none⟩ (.int .i64 tn)).drew := ((bel.setCell g2 _).setCell g2 _).drew
  have f1 : (((W.setCell ⟨h1, 0, none⟩ (.int .i64 x.inn)).setCell ⟨h1, 3, none⟩ (.int .i64 tn)).drew).cell? ⟨b2, o2 + 1, none⟩ = some (.int .i64 y.out) := cell_far _ (cell_far _ d1' (by intro e; simp at e <;> omega)) (by intro e; simp at e <;> omega)
  have f2 : (((W.setCell ⟨h1, 0, none⟩ (.int .i64 x.inn)).setCell ⟨h1, 3, none⟩ (.int .i64 tn)).drew).cell? ⟨b2, o2 + 2, none⟩ = some (.int .i64 y.wt) := cell_far _ (cell_far _ d2' (by intro e; simp at e <;> omega)) (by intro e; simp at e <;> omega)
  have f3 : (((W.setCell ⟨h1, 0, none⟩ (.int .i64 x.inn)).setCell ⟨h1, 3, none⟩ (.int .i64 tn)).drew).cell? ⟨b2, o2 + 3, none⟩ = some (.int .i64 yn) := cell_far _ (cell_far _ d3' (by intro e; simp at e <;> omega)) (by intro e; simp at e <;> omega)
  have lw : b2 < (((W.setCell ⟨h1, 0, none⟩ (.int .i64 x.inn)).setCell ⟨h1, 3, none⟩ (.int .i64 tn)).drew).heap.size := by simpa [World.setCell, World.drew] using lb2
  clear k0 k1 e0 e1 l0 l1 lb lb2 c0' c1' c2' c3' d0' d1' d2' d3' Z0 Z1 bel
  generalize ((W.setCell ⟨h1, 0, none⟩ (.int .i64 x.inn)).setCell ⟨h1, 3, none⟩ (.int .i64 tn)).drew = Wa at *
  have k0 := Y9.cell; have k1 := Z9.cell; have e0 := Y9.froz; have e1 := Z9.froz; have l0 := Y9.lt; have l1 := Z9.lt
  go_upto_region 6 with fail
  go_region
  have Z2 : Blk ((Wa.setCell ⟨h1, 1, none⟩ (.int .i64 y.out)).setCell ⟨h1, 4, none⟩ (.int .i64 yn)).drew h1 #[.int .i64 x.inn, .int .i64 y.out, .int .i64 0, .int .i64 tn, .int .i64 yn, .int .i64 0] 92 := ((Z9.put 1 _).put 4 _).drew.eq (by simp)
  have Y2 := (((Y9.far (a := ⟨h1, 1, none⟩) g3 (.int .i64 y.out)).far (a := ⟨h1, 4, none⟩) g3 (.int .i64 yn)).drew)
  have bel2 : Below w.heap.size w ((Wa.setCell ⟨h1, 1, none⟩ (.int .i64 y.out)).setCell ⟨h1, 4, none⟩ (.int .i64 yn)).drew := ((bel9.setCell g2 _).setCell g2 _).drew
  have cw : (((Wa.setCell ⟨h1, 1, none⟩ (.int .i64 y.out)).setCell ⟨h1, 4, none⟩ (.int .i64 yn)).drew).cell? ⟨b2, o2 + 2, none⟩ = some (.int .i64 y.wt) := cell_far _ (cell_far _ f2 (by intro e; simp at e <;> omega)) (by intro e; simp at e <;> omega)
  have lw2 : b2 < (((Wa.setCell ⟨h1, 1, none⟩ (.int .i64 y.out)).setCell ⟨h1, 4, none⟩ (.int .i64 yn)).drew).heap.size := by simpa [World.setCell, World.drew] using lw
  clear k0 k1 e0 e1 l0 l1 lw f1 f2 f3 Z9 Y9 bel9
  generalize ((Wa.setCell ⟨h1, 1, none⟩ (.int .i64 y.out)).setCell ⟨h1, 4, none⟩ (.int .i64 yn)).drew = W2 at *
  have k0 := Y2.cell; have k1 := Z2.cell; have e0 := Y2.froz; have e1 := Z2.froz; have l0 := Y2.lt; have l1 := Z2.lt
  go_wp2_with fail
  refine (TM.out _).mono ?_; rintro e w' ⟨rfl, rfl⟩
  go_upto_region 12 with fail
  have Z3 := (Z2.put 2 (.int .i64 (x.wt + y.wt))).eq (show _ = #[.int .i64 x.inn, .int .i64 y.out, .int .i64 (x.wt + y.wt), .int .i64 tn, .int .i64 yn, .int .i64 0] by simp)
  have Y3 := Y2.far (a := ⟨h1, 2, none⟩) g3 (.int .i64 (x.wt + y.wt))
  have bel3 : Below w.heap.size w (W2.setCell ⟨h1, 2, none⟩ (.int .i64 (x.wt + y.wt))) := bel2.setCell g2 _
  clear k0 k1 e0 e1 l0 l1 Z2 Y2 bel2
  generalize W2.setCell ⟨h1, 2, none⟩ (.int .i64 (x.wt + y.wt)) = W3 at *
  have k0 := Y3.cell; have k1 := Z3.cell; have e0 := Y3.froz; have e1 := Z3.froz; have l0 := Y3.lt; have l1 := Z3.lt
  go_wp2_with fail
  have Z4 := ((((((Y3.put 0 (.int .i64 x.inn)).put 1 (.int .i64 y.out)).put 2 (.int .i64 (x.wt + y.wt))).put 3 (.int .i64 tn)).put 4 (.int .i64 yn)).put 5 (.int .i64 0)).eq (show _ = #[.int .i64 x.inn, .int .i64 y.out, .int .i64 (x.wt + y.wt), .int .i64 tn, .int .i64 yn, .int .i64 0] by simp)
  have bel4 : Below w.heap.size w ((((((W3.setCell ⟨h0, 0, none⟩ (.int .i64 x.inn)).setCell ⟨h0, 1, none⟩ (.int .i64 y.out)).setCell ⟨h0, 2, none⟩ (.int .i64 (x.wt + y.wt))).setCell ⟨h0, 3, none⟩ (.int .i64 tn)).setCell ⟨h0, 4, none⟩ (.int .i64 yn)).setCell ⟨h0, 5, none⟩ (.int .i64 0)) := (((((bel3.setCell g1 _).setCell g1 _).setCell g1 _).setCell g1 _).setCell g1 _).setCell g1 _
  clear k0 k1 e0 e1 l0 l1 Z3 Y3 bel3
  generalize ((((((W3.setCell ⟨h0, 0, none⟩ (.int .i64 x.inn)).setCell ⟨h0, 1, none⟩ (.int .i64 y.out)).setCell ⟨h0, 2, none⟩ (.int .i64 (x.wt + y.wt))).setCell ⟨h0, 3, none⟩ (.int .i64 tn)).setCell ⟨h0, 4, none⟩ (.int .i64 yn)).setCell ⟨h0, 5, none⟩ (.int .i64 0)) = W4 at *
  have k0 := Z4.cell; have l0 := Z4.lt
  refine bodyPost_ret (v := .tuple #[.agg #[.int .i64 x.inn, .int .i64 y.out, .int .i64 (x.wt + y.wt), .int .i64 tn, .int .i64 yn, .int .i64 0], .int .i64 0]) (by simp [results, Try.results57, go_sem, *]) rfl ⟨rfl, bel4⟩
end Go.Proofs.Ytikkmoleneioeaa

namespace Go.Proofs.Ytikkmoleneioeaa
open Go.RowKit

theorem drewN_below (W : World) (k : Nat) : Below W.heap.size W (W.drewN k) := ⟨rfl, rfl, rfl, Nat.le_refl _, fun _ _ => rfl⟩
def hopCells (h : HopL) : List Value := [.int .i64 h.inn, .int .i64 h.out, .int .i64 h.wt, .int .i64 h.goes.a, .int .i64 h.goes.b, .int .i64 h.goes.f]
theorem eltHop : Elt Try.prog 86 92 (.agg #[.int .i64 0, .int .i64 0, .int .i64 0, .int .i64 0, .int .i64 0, .int .i64 0]) 6 48 := ⟨Try.underlying86, by kernel_rfl, rfl, by omega⟩
abbrev triA (t : TriL) : Array Value := #[.int .i64 t.a, .int .i64 t.b, .int .i64 t.f]
/-- expand's boxes, and the hops so far -/
structure ES (B pb tb wb ob : Nat) (p1 p2 p3 p4 : Value) (t : TriL) (W0 W : World) (l : List HopL) : Prop where
  pk : Blk W pb #[p1, p2, p3, p4] 89
  tk : Blk W tb (triA t) 83
  wk : Blk W wb #[.int .i64 0] 35
  q : ∃ A c, Blk W ob #[.slice A l.length c] 86 ∧ W.ownsRow B 92 6 (.slice A l.length c) l.length (l.flatMap hopCells)
  bel : Below B W0 W
  hw : B ≤ wb
  ho : B ≤ ob
  hB : B ≤ W0.heap.size
/-- what a call leaves as it was: boxes of other types -/
def Kept (ob : Nat) (W W' : World) : Prop := W.heap.size ≤ W'.heap.size ∧ ∀ (k : Nat) (cs : Array Value) (ty : TypeId), k ≠ ob → ty ≠ 92 → Blk W k cs ty → Blk W' k cs ty
theorem Kept.trans {ob : Nat} {W W' W'' : World} (h : Kept ob W W') (h' : Kept ob W' W'') : Kept ob W W'' := ⟨Nat.le_trans h.1 h'.1, fun k cs ty h1 h2 hb => h'.2 k cs ty h1 h2 (h.2 k cs ty h1 h2 hb)⟩
theorem Kept.below {ob : Nat} {W W' : World} (h : Below W.heap.size W W') : Kept ob W W' := ⟨h.size, fun _ _ _ _ _ hb => hb.step h⟩
section
variable {B pb tb wb ob : Nat} {p1 p2 p3 p4 : Value} {t : TriL} {W0 W W' : World} {l : List HopL}
theorem ES.keep (h : ES B pb tb wb ob p1 p2 p3 p4 t W0 W l) (hb : Below W.heap.size W W') : ES B pb tb wb ob p1 p2 p3 p4 t W0 W' l := by
  obtain ⟨A, c, h1, h2⟩ := h.q
  exact ⟨h.pk.step hb, h.tk.step hb, h.wk.step hb, ⟨A, c, h1.step hb, own_below h2 hb (Nat.le_refl _)⟩, h.bel.trans (hb.mono (Nat.le_trans h.hB h.bel.size)), h.hw, h.ho, h.hB⟩
theorem ES.ok (h : ES B pb tb wb ob p1 p2 p3 p4 t W0 W l) : ES B pb tb wb ob p1 p2 p3 p4 t W0 (W.setCell ⟨wb, 0, none⟩ (.int .i64 0)) l ∧ Kept ob W (W.setCell ⟨wb, 0, none⟩ (.int .i64 0)) := by
  have e : ∀ k, (W.setCell ⟨wb, 0, none⟩ (.int .i64 0)).heap[k]? = W.heap[k]? := fun k => by
    by_cases hk : k = wb
    · have h1 := h.wk.put 0 (.int .i64 0)
      have h2 := h.wk
      unfold Blk at h1 h2
      rw [hk, h1, h2]; simp
    · exact Below.heap_setCell _ _ _ _ hk
  have hb : Below W.heap.size W (W.setCell ⟨wb, 0, none⟩ (.int .i64 0)) := ⟨rfl, rfl, rfl, by simp [World.setCell], fun k _ => e k⟩
  exact ⟨h.keep hb, Kept.below hb⟩
theorem ES.app (h : ES B pb tb wb ob p1 p2 p3 p4 t W0 W l) {A : Option Addr} {c : Nat} (hq : Blk W ob #[.slice A l.length c] 86) (ho : W.ownsRow B 92 6 (.slice A l.length c) l.length (l.flatMap hopCells)) (x : HopL) (hg : W.grownBy W' (Value.slice A l.length c).ownBlock) {g cap : Nat}
    (hn : W'.ownsRow B 92 6 (.slice (some ⟨g, 0, none⟩) (l.length + 1) cap) (l.length + 1) (l.flatMap hopCells ++ (#[.int .i64 x.inn, .int .i64 x.out, .int .i64 x.wt, .int .i64 x.goes.a, .int .i64 x.goes.b, .int .i64 x.goes.f] : Array Value).toList)) (hat : (Value.slice A l.length c).ownBlock = some g ∨ W.heap.size ≤ g) (h1 : pb ≠ ob) (h2 : tb ≠ ob) (h3 : wb ≠ ob) :
    ES B pb tb wb ob p1 p2 p3 p4 t W0 (W'.setCell ⟨ob, 0, none⟩ (.slice (some ⟨g, 0, none⟩) (l.length + 1) cap)) (l ++ [x]) ∧ Kept ob W (W'.setCell ⟨ob, 0, none⟩ (.slice (some ⟨g, 0, none⟩) (l.length + 1) cap)) := by
  have ne : ∀ (k : Nat) (cs : Array Value) (ty : TypeId), ty ≠ 92 → Blk W k cs ty → some k ≠ (Value.slice A l.length c).ownBlock := fun k cs ty hty hb e => row_ne_blk ho hb (fun e2 => hty e2.symm) e.symm
  have kp : ∀ (k : Nat) (cs : Array Value) (ty : TypeId), k ≠ ob → ty ≠ 92 → Blk W k cs ty → Blk (W'.setCell ⟨ob, 0, none⟩ (.slice (some ⟨g, 0, none⟩) (l.length + 1) cap)) k cs ty := fun k cs ty hk hty hb => (hb.grown hg (ne k cs ty hty hb)).far hk _
  have hgo : g ≠ ob := by
    rcases hat with e | e
    · intro e2
      subst e2
      exact ne _ _ _ (by decide) hq e.symm
    · have := hq.lt; omega
  have bel1 : Below B W0 W' := below_app h.bel ho hg (Nat.le_refl _) (Nat.le_trans h.hB h.bel.size)
  refine ⟨⟨kp _ _ _ h1 (by decide) h.pk, kp _ _ _ h2 (by decide) h.tk, kp _ _ _ h3 (by decide) h.wk, ⟨some ⟨g, 0, none⟩, cap, ?_, ?_⟩, bel1.setCell h.ho _, h.hw, h.ho, h.hB⟩, by simp [World.setCell]; exact hg.size, kp⟩
  · refine ((hq.grown hg (ne _ _ _ (by decide) hq)).put 0 _).eq ?_
    rw [List.length_append]; simp
  · refine own_setCell ?_ (by simp [Value.ownBlock]; exact hgo) _
    rw [List.length_append, List.flatMap_append]
    simpa [hopCells] using hn
end

set_option maxRecDepth 100000 in
set_option maxHeartbeats 4000000 in
theorem do_any {B pb tb wb ob : Nat} {p1 p2 p3 p4 : Value} {t : TriL} {W0 : World} (W : World) (l : List HopL) (h : ES B pb tb wb ob p1 p2 p3 p4 t W0 W l) (hl : l.length + 1 ≤ 1000000) (h1 : pb ≠ ob) (h2 : tb ≠ ob) (h3 : wb ≠ ob) (xv yv : Value) (f : Int) (x : HopL)
    (hh : Calls Try.prog 57 #[.agg #[p1, p2, p3, p4], triV t, xv, yv, .int .i64 f] W fun e w' => e = .returned (.tuple #[hopV x, .int .i64 0]) ∧ Below W.heap.size W w') :
    Calls Try.prog 56 #[xv, yv, .int .i64 f, .pointer (some ⟨pb, 0, none⟩), .pointer (some ⟨tb, 0, none⟩), .pointer (some ⟨wb, 0, none⟩), .pointer (some ⟨ob, 0, none⟩)] W fun e w' => e = .returned (.bool true) ∧ ES B pb tb wb ob p1 p2 p3 p4 t W0 w' (l ++ [x]) ∧ Kept ob W w' := by
  have HS := Lib.hid h; have HH := Lib.hid hh
  have kp := h.pk.cell; have kt := h.tk.cell; have lp := h.pk.lt; have lt := h.tk.lt
  clear h hh
  go_enter Try.func56, Try.ntmps56
  go_wp2_with fail
  refine (HH.out).mono ?_; rintro e w1 ⟨rfl, b1⟩
  have HS1 := Lib.hid (HS.out.keep b1)
  have K1 := Lib.hid (Kept.below (ob := ob) b1)
  clear HH kp kt lp lt b1
  go_upto_region 2 with fail
  have X2 : Blk (w1.alloc (.cells #[.int .i64 x.inn, .int .i64 x.out, .int .i64 x.wt, .int .i64 x.goes.a, .int .i64 x.goes.b, .int .i64 x.goes.f] 92)) w1.heap.size _ _ := Blk.new _ _ _
  have b2 : Below w1.heap.size w1 (w1.alloc (.cells #[.int .i64 x.inn, .int .i64 x.out, .int .i64 x.wt, .int .i64 x.goes.a, .int .i64 x.goes.b, .int .i64 x.goes.f] 92)) := (by repeat' (first | exact Below.refl _ _ | assumption | refine Below.drew ?_ | refine Below.alloc ?_ (by first | omega | (simp; done) | (simp; omega)) _ | refine Below.setCell ?_ (by first | omega | (simp; done) | (simp; omega)) _))
  have HS2 := Lib.hid (HS1.out.keep b2)
  have K2 := Lib.hid (K1.out.trans (Kept.below b2))
  have hxw : w1.heap.size ≠ wb := fun e => by have := HS1.out.wk.lt; omega
  clear HS1 K1 b2
  generalize w1.alloc (.cells #[.int .i64 x.inn, .int .i64 x.out, .int .i64 x.wt, .int .i64 x.goes.a, .int .i64 x.goes.b, .int .i64 x.goes.f] 92) = w2 at *
  generalize w1.heap.size = xb at *
  have kw := HS2.out.wk.cell; have fw := HS2.out.wk.froz; have lw := HS2.out.wk.lt
  go_upto_region 3 with fail
  obtain ⟨hs3, hk3⟩ := HS2.out.ok
  have HS3 := Lib.hid hs3; have K3 := Lib.hid (K2.out.trans hk3)
  have X3 := X2.far (a := ⟨wb, 0, none⟩) hxw (.int .i64 0)
  clear HS2 K2 X2 hs3 hk3 kw fw lw
  generalize w2.setCell ⟨wb, 0, none⟩ (.int .i64 0) = w3 at *
  obtain ⟨A, c, hq, hO⟩ := HS3.out.q
  have HQ := Lib.hid hq; have HO := Lib.hid hO
  have kx := X3.cell; have lx := X3.lt; have ko := hq.cell; have lo := hq.lt; have fo := hq.froz
  have hB3 : B ≤ w3.heap.size := Nat.le_trans HS3.out.hB HS3.out.bel.size
  clear hq hO
  go_wp2_with (at_builtin; refine wpList_app1 rfl _ _ rfl eltHop B (.slice A l.length c) l.length (l.flatMap hopCells) rfl w3 HO.out #[.int .i64 x.inn, .int .i64 x.out, .int .i64 x.wt, .int .i64 x.goes.a, .int .i64 x.goes.b, .int .i64 x.goes.f] rfl w3.heap.size rfl rfl rfl (by simp [Value.oneCell']) (by omega) (by omega) hB3 ?_; intro g cap w4 hown hg hat hlt4; have kq4 := (HQ.out.grown hg (fun e => row_ne_blk HO.out HQ.out (by decide) e.symm)).cell; have fq4 := (HQ.out.grown hg (fun e => row_ne_blk HO.out HQ.out (by decide) e.symm)).froz; have lq4 := (HQ.out.grown hg (fun e => row_ne_blk HO.out HQ.out (by decide) e.symm)).lt)
  obtain ⟨hs5, hk5⟩ := HS3.out.app HQ.out HO.out x hg hown (hat.imp id (fun h => Nat.le_of_lt h)) h1 h2 h3
  have HS5 := Lib.hid hs5; have K5 := Lib.hid (K3.out.trans hk5)
  clear hown hg hat hlt4 hs5 hk5
  go_ret
  exact ⟨rfl, HS5.out, K5.out⟩

theorem hopsL_len (t : TriL) (right : List ArcL) (x : ArcL) : (hopsL t right x).length ≤ right.length + 1 := by
  unfold hopsL
  have := List.length_filter_le (meet t.f x) right
  rw [List.length_append, List.length_map]
  split <;> simp <;> omega
theorem left_len (t : TriL) (right left : List ArcL) : ∀ k, ((left.take k).flatMap (hopsL t right)).length ≤ k * (right.length + 1) := by
  intro k
  induction k with
  | zero => simp
  | succ k ih =>
    by_cases hk : k < left.length
    · rw [List.take_succ_eq_append_getElem hk, List.flatMap_append, List.length_append, Nat.succ_mul]
      have := hopsL_len t right left[k]
      simp only [List.flatMap_cons, List.flatMap_nil, List.append_nil]
      omega
    · have e : left.take (k + 1) = left.take k := by rw [List.take_of_length_le (by omega), List.take_of_length_le (by omega)]
      rw [e, Nat.succ_mul]; omega
def rightTo (t : TriL) (right : List ArcL) (j : Nat) : List HopL := ((right.take j).filter (fun y => y.inn == 0 && t.f != 1)).map (hopR t)
def bothTo (t : TriL) (right : List ArcL) (x : ArcL) (j : Nat) : List HopL := ((right.take j).filter (meet t.f x)).map (hopB x)
theorem rightTo_succ (t : TriL) (right : List ArcL) (j : Nat) (hj : j < right.length) : rightTo t right (j + 1) = rightTo t right j ++ if (right[j].inn == 0 && t.f != 1) = true then [hopR t right[j]] else [] := by
  unfold rightTo
  rw [List.take_succ_eq_append_getElem hj, List.filter_append, List.map_append, List.filter_cons]
  split <;> rfl
theorem bothTo_succ (t : TriL) (right : List ArcL) (x : ArcL) (j : Nat) (hj : j < right.length) : bothTo t right x (j + 1) = bothTo t right x j ++ if meet t.f x right[j] = true then [hopB x right[j]] else [] := by
  unfold bothTo
  rw [List.take_succ_eq_append_getElem hj, List.filter_append, List.map_append, List.filter_cons]
  split <;> rfl
theorem rightTo_len (t : TriL) (right : List ArcL) (j : Nat) : (rightTo t right j).length ≤ j := by
  unfold rightTo
  rw [List.length_map]
  exact Nat.le_trans (List.length_filter_le _ _) (by simp; omega)
theorem bothTo_len (t : TriL) (right : List ArcL) (x : ArcL) (j : Nat) : (bothTo t right x j).length ≤ j := by
  unfold bothTo
  rw [List.length_map]
  exact Nat.le_trans (List.length_filter_le _ _) (by simp; omega)
theorem arcCells_of {w : World} {A : Option Addr} {l : List ArcL} (h : ArcsAt w A l) (i : Nat) (hi : i < l.length) : ArcCells w (blk A) (ofs A + i * 4) l[i] :=
  ⟨h.c0 i hi, h.c1 i hi, h.c2 i hi, h.c3 i hi, World.block_lt_of_cell? _ _ (h.c0 i hi)⟩

set_option maxRecDepth 100000 in
set_option maxHeartbeats 8000000 in
theorem moves_any (a b : MachL) (AA AB : Option Addr) (ca cb : Nat) (t : TriL) (pb tb wb ob : Nat) (w W : World) (sA : StatesAt w AA a.states) (sB : StatesAt w AB b.states) (hva : Valid a) (hvb : Valid b) (ht : t.a < a.states.length ∧ t.b < b.states.length ∧ t.f ≤ 2)
    (hWt : ∀ x ∈ arcsQ a t.a, ∀ y ∈ arcsQ b t.b, x.wt + y.wt ≤ 1000000000) (h : ES w.heap.size pb tb wb ob (.int .i64 a.start) (.slice AA a.states.length ca) (.int .i64 b.start) (.slice AB b.states.length cb) t w W []) (h1 : pb ≠ ob) (h2 : tb ≠ ob) (h3 : wb ≠ ob) :
    Calls Try.prog 55 #[.agg #[.int .i64 a.start, .slice AA a.states.length ca, .int .i64 b.start, .slice AB b.states.length cb], triV t, .func (.func 56) #[] #[.pointer (some ⟨pb, 0, none⟩), .pointer (some ⟨tb, 0, none⟩), .pointer (some ⟨wb, 0, none⟩), .pointer (some ⟨ob, 0, none⟩)]] W fun e w' => e = .returned (.tuple #[]) ∧ ES w.heap.size pb tb wb ob (.int .i64 a.start) (.slice AA a.states.length ca) (.int .i64 b.start) (.slice AB b.states.length cb) t w w' (hopsX a b t) ∧ Kept ob W w' := by
  obtain ⟨ht1, ht2, ht3⟩ := ht
  have rdA := sA.rdy; have rdB := sB.rdy
  obtain ⟨AL, cL, d1, sL⟩ := sA.c1 t.a ht1
  obtain ⟨AR, cR, d2, sR⟩ := sB.c1 t.b ht2
  have hqa : arcsQ a t.a = a.states[t.a].arcs := by unfold arcsQ; rw [List.getElem?_eq_getElem ht1]; rfl
  have hqb : arcsQ b t.b = b.states[t.b].arcs := by unfold arcsQ; rw [List.getElem?_eq_getElem ht2]; rfl
  have hXE : hopsX a b t = (a.states[t.a].arcs).flatMap (hopsL t b.states[t.b].arcs) ++ hopsR t b.states[t.b].arcs := by unfold hopsX; rw [hqa, hqb]
  have hvL := (hva.st _ (List.getElem_mem ht1)).2; have hvR := (hvb.st _ (List.getElem_mem ht2)).2
  have hlL : a.states[t.a].arcs.length ≤ 400 := by have := hva.arcs; have := arcs_le_of a.states _ (List.getElem_mem ht1); omega
  have hlR : b.states[t.b].arcs.length ≤ 400 := by have := hvb.arcs; have := arcs_le_of b.states _ (List.getElem_mem ht2); omega
  rw [hqa, hqb] at hWt
  rw [hXE]
  generalize a.states[t.a].arcs = left at *
  generalize b.states[t.b].arcs = right at *
  have HSL := Lib.hid sL; have HSR := Lib.hid sR; have HVL := Lib.hid hvL; have HVR := Lib.hid hvR; have HWT := Lib.hid hWt
  have HS := Lib.hid h
  have e1 := cell_keep h.bel (Nat.le_refl _) d1; have e2 := cell_keep h.bel (Nat.le_refl _) d2
  have le1 := World.block_lt_of_cell? _ _ e1; have le2 := World.block_lt_of_cell? _ _ e2
  have rdL := sL.rdy; have rdR := sR.rdy
  have hWs : w.heap.size ≤ W.heap.size := h.bel.size
  have hobW : ob < W.heap.size := by obtain ⟨_, _, hq, -⟩ := h.q; exact hq.lt
  clear sL sR hvL hvR hWt h hqa hqb hXE sA sB hva hvb d1 d2
  unfold triV
  have ta0 : (0 : Int) ≤ ↑t.a := by omega
  have tb0 : (0 : Int) ≤ ↑t.b := by omega
  have ta1 : (↑t.a : Int) < ↑a.states.length := by omega
  have tb1 : (↑t.b : Int) < ↑b.states.length := by omega
  go_enter Try.func55, Try.ntmps55
  go_upto_region 1 with fail
  have P3 : Hid (Blk ((W.alloc (.cells #[.int .i64 a.start, .slice AA a.states.length ca, .int .i64 b.start, .slice AB b.states.length cb] 89)).alloc (.cells #[.int .i64 t.a, .int .i64 t.b, .int .i64 t.f] 83)) W.heap.size #[.int .i64 a.start, .slice AA a.states.length ca, .int .i64 b.start, .slice AB b.states.length cb] 89) := Lib.hid ((Blk.new _ _ _).alloc _)
  have P4 : Hid (Blk ((W.alloc (.cells #[.int .i64 a.start, .slice AA a.states.length ca, .int .i64 b.start, .slice AB b.states.length cb] 89)).alloc (.cells #[.int .i64 t.a, .int .i64 t.b, .int .i64 t.f] 83)) (W.heap.size + 1) #[.int .i64 t.a, .int .i64 t.b, .int .i64 t.f] 83) := Lib.hid (Blk.new' (by simp))
  have bel : Below W.heap.size W ((W.alloc (.cells #[.int .i64 a.start, .slice AA a.states.length ca, .int .i64 b.start, .slice AB b.states.length cb] 89)).alloc (.cells #[.int .i64 t.a, .int .i64 t.b, .int .i64 t.f] 83)) := (by repeat' (first | exact Below.refl _ _ | assumption | refine Below.drew ?_ | refine Below.alloc ?_ (by first | omega | (simp; done) | (simp; omega)) _ | refine Below.setCell ?_ (by first | omega | (simp; done) | (simp; omega)) _))
  have HS1 := Lib.hid (HS.out.keep bel)
  have K1 := Lib.hid (Kept.below (ob := ob) bel)
  have f1 := cell_keep bel (Nat.le_refl _) e1; have f2 := cell_keep bel (Nat.le_refl _) e2
  have lf1 := Nat.lt_of_lt_of_le le1 bel.size; have lf2 := Nat.lt_of_lt_of_le le2 bel.size
  clear HS e1 e2 le1 le2 bel
  have hb3 : W.heap.size ≠ ob := by omega
  have hb4 : W.heap.size + 1 ≠ ob := by omega
  generalize (W.alloc (.cells #[.int .i64 a.start, .slice AA a.states.length ca, .int .i64 b.start, .slice AB b.states.length cb] 89)).alloc (.cells #[.int .i64 t.a, .int .i64 t.b, .int .i64 t.f] 83) = W1 at *
  generalize W.heap.size + 1 = b4 at *
  generalize hb3e : W.heap.size = b3 at *
  have k3 := P3.out.cell; have l3 := P3.out.lt; have k4 := P4.out.cell; have l4 := P4.out.lt
  go_quiet (fail)
  have bd := drewN_below W1 nq
  have HS2 := Lib.hid (HS1.out.keep bd); have K2 := Lib.hid (K1.out.trans (Kept.below (ob := ob) bd))
  have P5 := Lib.hid (P3.out.step bd); have P6 := Lib.hid (P4.out.step bd)
  clear HS1 K1 P3 P4 k3 l3 k4 l4 f1 f2 lf1 lf2 bd
  generalize W1.drewN nq = W2 at *
  go_upto_region 3 with fail
  go_loopw [32] (fun iv wx => ∃ k : Nat, k ≤ left.length ∧ iv = .int .i64 k ∧ ES w.heap.size pb tb wb ob (.int .i64 a.start) (.slice AA a.states.length ca) (.int .i64 b.start) (.slice AB b.states.length cb) t w wx ((left.take k).flatMap (hopsL t right)) ∧ Kept ob W wx ∧ Blk wx b4 #[.int .i64 t.a, .int .i64 t.b, .int .i64 t.f] 83) (fun iv _ => left.length - (intOf iv).toNat)
  case atStart => exact ⟨0, by omega, rfl, by simpa using HS2.out, K2.out, P6.out⟩
  case round =>
    obtain ⟨k, hk, rfl, hS, hK, hP⟩ := hrel
    have HSk := Lib.hid hS; have HKk := Lib.hid hK; have HPk := Lib.hid hP
    have hll := left_len t right left k
    have hll2 : k * (right.length + 1) ≤ 400 * 401 := Nat.mul_le_mul (by omega) (by omega)
    clear hS hK hP
    have j0 : (0 : Int) ≤ (k : Int) := by omega
    by_cases hlt : k < left.length
    · have j1 : (k : Int) < (left.length : Int) := by omega
      have hsucc : (left.take (k + 1)).flatMap (hopsL t right) = (left.take k).flatMap (hopsL t right) ++ hopsL t right left[k] := by
        rw [List.take_succ_eq_append_getElem hlt, List.flatMap_append]; simp
      have hCX : ArcCells w (blk AL) (ofs AL + k * 4) left[k] := arcCells_of HSL.out k hlt
      have hvx := HVL.out _ (List.getElem_mem hlt)
      have hwx := HWT.out _ (List.getElem_mem hlt)
      generalize (left.take k).flatMap (hopsL t right) = l0 at *
      generalize left[k] = x at *
      have HSU := Lib.hid hsucc; have HCX := Lib.hid hCX; have HVX := Lib.hid hvx; have HWX := Lib.hid hwx
      clear hsucc hCX hvx hwx
      obtain ⟨wo, rfl⟩ : ∃ wo : World, wo = wr := ⟨_, rfl⟩
      go_upto_region 7 with fail
      go_loopw [40] (fun jv wx => ∃ j : Nat, j ≤ right.length ∧ jv = .int .i64 j ∧ ES w.heap.size pb tb wb ob (.int .i64 a.start) (.slice AA a.states.length ca) (.int .i64 b.start) (.slice AB b.states.length cb) t w wx (l0 ++ bothTo t right x j) ∧ Kept ob W wx ∧ Blk wx b4 #[.int .i64 t.a, .int .i64 t.b, .int .i64 t.f] 83) (fun jv _ => right.length - (intOf jv).toNat)
      case atStart => exact ⟨0, by omega, rfl, by simpa [bothTo] using HSk.out, HKk.out, HPk.out⟩
      case round =>
        obtain ⟨j, hj, rfl, hS, hK, hP⟩ := hrel
        have HSj := Lib.hid hS; have HKj := Lib.hid hK; have HPj := Lib.hid hP
        have hbl := bothTo_len t right x j
        have i0 : (0 : Int) ≤ (j : Int) := by omega
        have cx := (HCX.out.step hS.bel (Nat.le_refl _))
        have x0 := cx.c0; have x1 := cx.c1; have lx := cx.lt
        clear hS hK hP
        by_cases hlt2 : j < right.length
        · have i1 : (j : Int) < (right.length : Int) := by omega
          have hCY : ArcCells w (blk AR) (ofs AR + j * 4) right[j] := arcCells_of HSR.out j hlt2
          have hvy := HVR.out _ (List.getElem_mem hlt2)
          have hwy := HWX.out _ (List.getElem_mem hlt2)
          have hsu := bothTo_succ t right x j hlt2
          generalize right[j] = y at *
          have cy := (hCY.step HSj.out.bel (Nat.le_refl _))
          have y0 := cy.c0; have y1 := cy.c1; have ly := cy.lt
          have HCY := Lib.hid hCY; have HVY := Lib.hid hvy; have HWY := Lib.hid hwy; have HSU2 := Lib.hid hsu
          have kf := HPj.out.cell; have lf := HPj.out.lt
          clear hCY hvy hwy hsu cx cy
          go_upto_region 10 with fail
          go_cut [12] (fun bv wx => bv = .bool (meet t.f x y) ∧ Below wr.heap.size wr wx)
          case first =>
            by_cases h9 : x.out = y.inn
            · have q1 : (x.out == y.inn) = true := by simpa using h9
              by_cases h8 : x.out = 0
              · have q2 : (x.out != 0) = false := by simpa using h8
                have q2' : (x.out == 0) = true := by simpa using h8
                by_cases h7 : t.f = 0
                · have q3 : ((t.f : Int) == 0) = true := by simp [h7]
                  have HR : Hid (meet t.f x y = true) := Lib.hid (by unfold meet; simp [h9, h7])
                  clear h9 h8 h7
                  go_quiet (fail)
                  go_wp2_with fail
                  go_meet
                  case rel => exact ⟨by rw [HR.out], drewN_below _ _⟩
                · have q3 : ((t.f : Int) == 0) = false := by simp; omega
                  have HR : Hid (meet t.f x y = false) := Lib.hid (by unfold meet; simp [h8, h7])
                  clear h9 h8 h7
                  go_quiet (fail)
                  go_wp2_with fail
                  go_meet
                  case rel => exact ⟨by rw [HR.out], drewN_below _ _⟩
              · have q2 : (x.out != 0) = true := by simpa using h8
                have q2' : (x.out == 0) = false := by simpa using h8
                have HR : Hid (meet t.f x y = true) := Lib.hid (by unfold meet; rw [q1, q2]; rfl)
                clear h9 h8
                go_quiet (fail)
                go_wp2_with fail
                go_meet
                case rel => exact ⟨by rw [HR.out], drewN_below _ _⟩
            · have q1 : (x.out == y.inn) = false := by simpa using h9
              have HR : Hid (meet t.f x y = false) := Lib.hid (by unfold meet; rw [q1]; rfl)
              clear h9
              go_quiet (fail)
              go_wp2_with fail
              go_meet
              case rel => exact ⟨by rw [HR.out], drewN_below _ _⟩
          case rest =>
            obtain ⟨rfl, bc⟩ := hcut
            have HSc := Lib.hid (HSj.out.keep bc); have HKc := Lib.hid (HKj.out.trans (Kept.below bc)); have HPc := Lib.hid (HPj.out.step bc)
            have cx := (HCX.out.step HSc.out.bel (Nat.le_refl _)); have cy := (HCY.out.step HSc.out.bel (Nat.le_refl _))
            have HCX2 := Lib.hid cx; have HCY2 := Lib.hid cy
            clear HSj HKj HPj bc x0 x1 lx y0 y1 ly kf lf cx cy
            by_cases hm : meet t.f x y = true
            · have HD := Lib.hid (do_any wc _ HSc.out (by rw [List.length_append]; omega) h1 h2 h3 (.pointer (some ⟨blk AL, ofs AL + k * 4, none⟩)) (.pointer (some ⟨blk AR, ofs AR + j * 4, none⟩)) 0 (hopB x y) (hop_both _ _ _ _ t _ _ _ _ x y _ _ wc HCX2.out HVX.out HCY2.out HVY.out HWY.out))
              have HSU3 := Lib.hid (HSU2.out.trans (by rw [if_pos hm]))
              rw [hm]
              clear HSU2 hm
              go_wp2_with fail
              refine HD.out.mono ?_; rintro e w5 ⟨rfl, hs5, hk5⟩
              rw [List.append_assoc, ← HSU3.out] at hs5
              have HS5 := Lib.hid hs5; have HK5 := Lib.hid (HKc.out.trans hk5)
              have HP5 := Lib.hid (hk5.2 _ _ _ hb4 (by decide) HPc.out)
              clear hs5 hk5 HSc HKc HPc HD
              go_wp2_with fail
              go_roundw
              case rel => exact ⟨j + 1, by omega, by go_num, HS5.out, HK5.out, HP5.out⟩
              case measure => simp [intOf]; omega
            · have hm' : meet t.f x y = false := by simpa using hm
              have HSU3 := Lib.hid (HSU2.out.trans (by rw [if_neg hm, List.append_nil]))
              rw [hm']
              clear HSU2 hm hm'
              go_wp2_with fail
              go_roundw
              case rel => exact ⟨j + 1, by omega, by go_num, by rw [HSU3.out]; exact HSc.out, HKc.out, HPc.out⟩
              case measure => simp [intOf]; omega
        · obtain rfl : j = right.length := by omega
          have i1 : ¬ (↑right.length : Int) < ↑right.length := by omega
          have HFX : Hid (hopsL t right x = bothTo t right x right.length ++ if x.out = 0 ∧ t.f ≠ 2 then [hopLt t x] else []) := Lib.hid (by unfold hopsL bothTo; rw [List.take_length])
          have kf := HPj.out.cell; have lf := HPj.out.lt
          have HCX2 := Lib.hid (HCX.out.step HSj.out.bel (Nat.le_refl _))
          by_cases h9 : x.out = 0
          · have q1 : (x.out == 0) = true := by simpa using h9
            by_cases h8 : t.f = 2
            · have q2 : ((t.f : Int) != 2) = false := by simp [h8]
              have HR := Lib.hid (HSU.out.trans (by rw [HFX.out, if_neg (fun h => h.2 h8), List.append_nil]))
              clear h9 h8
              go_wp2_with fail
              go_roundw
              case rel => exact ⟨k + 1, by omega, by go_num, by rw [HR.out]; exact HSj.out, HKj.out, HPj.out⟩
              case measure => simp [intOf]; omega
            · have q2 : ((t.f : Int) != 2) = true := by simp; omega
              have HR := Lib.hid (HSU.out.trans (by rw [HFX.out, if_pos ⟨h9, h8⟩]))
              have HD := Lib.hid (do_any wr _ HSj.out (by rw [List.length_append]; omega) h1 h2 h3 (.pointer (some ⟨blk AL, ofs AL + k * 4, none⟩)) (.pointer none) 1 (hopLt t x) (hop_left _ _ _ _ t _ _ x _ wr HCX2.out HVX.out))
              clear h9 h8
              go_wp2_with fail
              refine HD.out.mono ?_; rintro e w5 ⟨rfl, hs5, hk5⟩
              rw [List.append_assoc, ← HR.out] at hs5
              have HS5 := Lib.hid hs5; have HK5 := Lib.hid (HKj.out.trans hk5)
              have HP5 := Lib.hid (hk5.2 _ _ _ hb4 (by decide) HPj.out)
              clear hs5 hk5 HD
              go_wp2_with fail
              go_roundw
              case rel => exact ⟨k + 1, by omega, by go_num, HS5.out, HK5.out, HP5.out⟩
              case measure => simp [intOf]; omega
          · have q1 : (x.out == 0) = false := by simpa using h9
            have HR := Lib.hid (HSU.out.trans (by rw [HFX.out, if_neg (fun h => h9 h.1), List.append_nil]))
            clear h9
            go_wp2_with fail
            go_roundw
            case rel => exact ⟨k + 1, by omega, by go_num, by rw [HR.out]; exact HSj.out, HKj.out, HPj.out⟩
            case measure => simp [intOf]; omega
    · obtain rfl : k = left.length := by omega
      have j1 : ¬ (↑left.length : Int) < ↑left.length := by omega
      rw [List.take_length] at HSk hll
      generalize hl0 : left.flatMap (hopsL t right) = l0 at *
      have HL0 := Lib.hid hl0; clear hl0
      have HF : Hid (hopsR t right = rightTo t right right.length) := Lib.hid (by unfold hopsR rightTo; rw [List.take_length])
      go_upto_region 16 with fail
      go_loopw [95] (fun jv wx => ∃ j : Nat, j ≤ right.length ∧ jv = .int .i64 j ∧ ES w.heap.size pb tb wb ob (.int .i64 a.start) (.slice AA a.states.length ca) (.int .i64 b.start) (.slice AB b.states.length cb) t w wx (l0 ++ rightTo t right j) ∧ Kept ob W wx ∧ Blk wx b4 #[.int .i64 t.a, .int .i64 t.b, .int .i64 t.f] 83) (fun jv _ => right.length - (intOf jv).toNat)
      case atStart => exact ⟨0, by omega, rfl, by simpa [rightTo] using HSk.out, HKk.out, HPk.out⟩
      case round =>
        obtain ⟨j, hj, rfl, hS, hK, hP⟩ := hrel
        have HSj := Lib.hid hS; have HKj := Lib.hid hK; have HPj := Lib.hid hP
        have hbl := rightTo_len t right j
        have i0 : (0 : Int) ≤ (j : Int) := by omega
        clear hS hK hP
        by_cases hlt2 : j < right.length
        · have i1 : (j : Int) < (right.length : Int) := by omega
          have hCY : ArcCells w (blk AR) (ofs AR + j * 4) right[j] := arcCells_of HSR.out j hlt2
          have hvy := HVR.out _ (List.getElem_mem hlt2)
          have hsu := rightTo_succ t right j hlt2
          generalize right[j] = y at *
          have HCY := Lib.hid (hCY.step HSj.out.bel (Nat.le_refl _)); have HVY := Lib.hid hvy
          have y0 := HCY.out.c0; have ly := HCY.out.lt
          have kf := HPj.out.cell; have lf := HPj.out.lt
          clear hCY hvy
          by_cases h9 : y.inn = 0
          · have q1 : (y.inn == 0) = true := by simpa using h9
            by_cases h8 : t.f = 1
            · have q2 : ((t.f : Int) != 1) = false := by simp [h8]
              have HR := Lib.hid (hsu.trans (by rw [if_neg (by simp [h8]), List.append_nil]))
              clear h9 h8 hsu
              go_wp2_with fail
              go_roundw
              case rel => exact ⟨j + 1, by omega, by go_num, by rw [HR.out]; exact HSj.out, HKj.out, HPj.out⟩
              case measure => simp [intOf]; omega
            · have q2 : ((t.f : Int) != 1) = true := by simp; omega
              have HR := Lib.hid (hsu.trans (by rw [if_pos (by simp [h9, h8])]))
              have HD := Lib.hid (do_any wr _ HSj.out (by rw [List.length_append]; omega) h1 h2 h3 (.pointer none) (.pointer (some ⟨blk AR, ofs AR + j * 4, none⟩)) 2 (hopR t y) (hop_right _ _ _ _ t _ _ y _ wr HCY.out HVY.out))
              clear h9 h8 hsu
              go_wp2_with fail
              refine HD.out.mono ?_; rintro e w5 ⟨rfl, hs5, hk5⟩
              rw [List.append_assoc, ← HR.out] at hs5
              have HS5 := Lib.hid hs5; have HK5 := Lib.hid (HKj.out.trans hk5)
              have HP5 := Lib.hid (hk5.2 _ _ _ hb4 (by decide) HPj.out)
              clear hs5 hk5 HD
              go_wp2_with fail
              go_roundw
              case rel => exact ⟨j + 1, by omega, by go_num, HS5.out, HK5.out, HP5.out⟩
              case measure => simp [intOf]; omega
          · have q1 : (y.inn == 0) = false := by simpa using h9
            have HR := Lib.hid (hsu.trans (by rw [if_neg (by simp [h9]), List.append_nil]))
            clear h9 hsu
            go_wp2_with fail
            go_roundw
            case rel => exact ⟨j + 1, by omega, by go_num, by rw [HR.out]; exact HSj.out, HKj.out, HPj.out⟩
            case measure => simp [intOf]; omega
        · obtain rfl : j = right.length := by omega
          have i1 : ¬ (↑right.length : Int) < ↑right.length := by omega
          go_wp2_with fail
          go_end0
          exact ⟨rfl, by rw [HF.out, HL0.out]; exact HSj.out, HKj.out⟩
end Go.Proofs.Ytikkmoleneioeaa

namespace Go.Proofs.Ytikkmoleneioeaa
open Go.RowKit

/-- weights of two machines that fit -/
theorem WtOk.fin {a b : MachL} {W1 W2 : Int} (h : WtOk a b W1 W2) (ha : Valid a) (hb : Valid b) (t : TriL) (ht : t.a < a.states.length ∧ t.b < b.states.length) : ∀ W, Calls Try.prog 54 #[.int .i64 (finQ a t.a), .int .i64 (finQ b t.b)] W fun e w' => e = .returned (.tuple #[.int .i64 (finT a b t), .int .i64 0]) ∧ W = w' := by
  intro W
  have e1 : finQ a t.a = a.states[t.a].final := by unfold finQ; rw [List.getElem?_eq_getElem ht.1]; rfl
  have e2 : finQ b t.b = b.states[t.b].final := by unfold finQ; rw [List.getElem?_eq_getElem ht.2]; rfl
  have v1 := (ha.st _ (List.getElem_mem ht.1)).1; have v2 := (hb.st _ (List.getElem_mem ht.2)).1
  rw [← e1] at v1
  rw [← e2] at v2
  have f1 := h.f1 t.a; have f2 := h.f2 t.b; have hle := h.le; have hi : INF = 1000000001 := rfl
  unfold finT timesI
  unfold ValidFinal at v1 v2
  by_cases hc : finQ a t.a = INF ∨ finQ b t.b = INF
  · rw [if_pos hc]
    exact Times_inf _ _ W (by omega) (by omega) (by omega) (by omega) hc
  · rw [if_neg hc]
    have g1 := f1 (fun e => hc (.inl e)); have g2 := f2 (fun e => hc (.inr e))
    have n1 : ¬ finQ a t.a = 1000000001 := fun e => hc (.inl e)
    have n2 : ¬ finQ b t.b = 1000000001 := fun e => hc (.inr e)
    exact Times_ok _ _ W (by omega) (by omega) (by omega) (by omega) (by omega)
theorem Times_same {a b c : Int} {W : World} (h : Calls Try.prog 54 #[.int .i64 a, .int .i64 b] W fun e w' => e = .returned (.tuple #[.int .i64 c, .int .i64 0]) ∧ W = w') : Calls Try.prog 54 #[.int .i64 a, .int .i64 b] W fun e w' => e = .returned (.tuple #[.int .i64 c, .int .i64 0]) ∧ w' = W := h.mono fun _ _ g => ⟨g.1, g.2.symm⟩
set_option maxRecDepth 100000 in
set_option maxHeartbeats 8000000 in
theorem expand_any (a b : MachL) (AA AB : Option Addr) (ca cb : Nat) (t : TriL) (W1 W2 : Int) (w : World) (sA : StatesAt w AA a.states) (sB : StatesAt w AB b.states) (hva : Valid a) (hvb : Valid b) (ht : t.a < a.states.length ∧ t.b < b.states.length ∧ t.f ≤ 2) (hW : WtOk a b W1 W2) :
    Calls Try.prog 36 #[.agg #[.int .i64 a.start, .slice AA a.states.length ca, .int .i64 b.start, .slice AB b.states.length cb], triV t] w fun e w' => ∃ A c, e = .returned (.tuple #[.int .i64 (finT a b t), .slice A (hopsX a b t).length c, .int .i64 0]) ∧ w'.ownsRow w.heap.size 92 6 (.slice A (hopsX a b t).length c) (hopsX a b t).length ((hopsX a b t).flatMap hopCells) ∧ Below w.heap.size w w' := by
  have TM := Lib.hid (hW.fin hva hvb t ⟨ht.1, ht.2.1⟩)
  have MV := Lib.hid (fun pb tb wb ob W h h1 h2 h3 => moves_any a b AA AB ca cb t pb tb wb ob w W sA sB hva hvb ht (fun x hx y hy => by have := hW.w1 _ x hx; have := hW.w2 _ y hy; have := hW.le; omega) h h1 h2 h3)
  obtain ⟨ht1, ht2, ht3⟩ := ht
  have rdA := sA.rdy; have rdB := sB.rdy
  have d1 := sA.c0 t.a ht1; have d2 := sB.c0 t.b ht2
  have e1 : finQ a t.a = a.states[t.a].final := by unfold finQ; rw [List.getElem?_eq_getElem ht1]; rfl
  have e2 : finQ b t.b = b.states[t.b].final := by unfold finQ; rw [List.getElem?_eq_getElem ht2]; rfl
  rw [← e1] at d1
  rw [← e2] at d2
  generalize finT a b t = ft at *
  generalize finQ a t.a = fa at *
  generalize finQ b t.b = fb at *
  have ta0 : (0 : Int) ≤ ↑t.a := by omega
  have tb0 : (0 : Int) ≤ ↑t.b := by omega
  have ta1 : (↑t.a : Int) < ↑a.states.length := by omega
  have tb1 : (↑t.b : Int) < ↑b.states.length := by omega
  have le1 := World.block_lt_of_cell? _ _ d1; have le2 := World.block_lt_of_cell? _ _ d2
  clear e1 e2 sA sB hva hvb hW
  unfold triV
  go_enter Try.func36, Try.ntmps36
  go_upto_region 1 with fail
  have P3 : Hid (Blk ((w.alloc (.cells #[.int .i64 a.start, .slice AA a.states.length ca, .int .i64 b.start, .slice AB b.states.length cb] 89)).alloc (.cells #[.int .i64 t.a, .int .i64 t.b, .int .i64 t.f] 83)) w.heap.size #[.int .i64 a.start, .slice AA a.states.length ca, .int .i64 b.start, .slice AB b.states.length cb] 89) := Lib.hid ((Blk.new _ _ _).alloc _)
  have P4 : Hid (Blk ((w.alloc (.cells #[.int .i64 a.start, .slice AA a.states.length ca, .int .i64 b.start, .slice AB b.states.length cb] 89)).alloc (.cells #[.int .i64 t.a, .int .i64 t.b, .int .i64 t.f] 83)) (w.heap.size + 1) #[.int .i64 t.a, .int .i64 t.b, .int .i64 t.f] 83) := Lib.hid (Blk.new' (by simp))
  have bel : Below w.heap.size w ((w.alloc (.cells #[.int .i64 a.start, .slice AA a.states.length ca, .int .i64 b.start, .slice AB b.states.length cb] 89)).alloc (.cells #[.int .i64 t.a, .int .i64 t.b, .int .i64 t.f] 83)) := (by repeat' (first | exact Below.refl _ _ | assumption | refine Below.drew ?_ | refine Below.alloc ?_ (by first | omega | (simp; done) | (simp; omega)) _ | refine Below.setCell ?_ (by first | omega | (simp; done) | (simp; omega)) _))
  have f1 := cell_keep bel (Nat.le_refl _) d1; have f2 := cell_keep bel (Nat.le_refl _) d2
  have lf1 := Nat.lt_of_lt_of_le le1 bel.size; have lf2 := Nat.lt_of_lt_of_le le2 bel.size
  have hz : ((w.alloc (.cells #[.int .i64 a.start, .slice AA a.states.length ca, .int .i64 b.start, .slice AB b.states.length cb] 89)).alloc (.cells #[.int .i64 t.a, .int .i64 t.b, .int .i64 t.f] 83)).heap.size = w.heap.size + 2 := by simp
  have HZ := Lib.hid hz
  clear d1 d2 le1 le2 hz
  generalize (w.alloc (.cells #[.int .i64 a.start, .slice AA a.states.length ca, .int .i64 b.start, .slice AB b.states.length cb] 89)).alloc (.cells #[.int .i64 t.a, .int .i64 t.b, .int .i64 t.f] 83) = w1 at *
  have k3 := P3.out.cell; have l3 := P3.out.lt; have k4 := P4.out.cell; have l4 := P4.out.lt
  go_quiet ((go_at_call 54; exact Calls.quiet_of_same (Times_same (TM.out _))))
  have bd := drewN_below w1 nq
  have b2 := bel.trans (bd.mono bel.size)
  have P5 := Lib.hid (P3.out.step bd); have P6 := Lib.hid (P4.out.step bd)
  have HZ2 : Hid ((w1.drewN nq).heap.size = w.heap.size + 2) := Lib.hid HZ.out
  clear P3 P4 k3 l3 k4 l4 f1 f2 lf1 lf2 bd bel TM HZ
  generalize w1.drewN nq = w2 at *
  go_upto_region 6 with fail
  have E0 : ES w.heap.size w.heap.size (w.heap.size + 1) (w2.heap.size + 1) w2.heap.size (.int .i64 a.start) (.slice AA a.states.length ca) (.int .i64 b.start) (.slice AB b.states.length cb) t w ((w2.alloc (.cells #[.slice none 0 0] 86)).alloc (.cells #[.int .i64 0] 35)) [] :=
    ⟨(P5.out.alloc _).alloc _, (P6.out.alloc _).alloc _, Blk.new' (by simp), ⟨none, 0, (Blk.new _ _ _).alloc _, World.ownsRow_nil _ _ _ _⟩, (b2.alloc b2.size _).alloc (by simp; have := b2.size; omega) _, by have := b2.size; omega, b2.size, Nat.le_refl _⟩
  have HE0 := Lib.hid E0
  have n1 : w.heap.size ≠ w2.heap.size := by have := HZ2.out; omega
  have n2 : w.heap.size + 1 ≠ w2.heap.size := by have := HZ2.out; omega
  have n3 : w2.heap.size + 1 ≠ w2.heap.size := by omega
  clear E0 P5 P6 b2 HZ2
  generalize (w2.alloc (.cells #[.slice none 0 0] 86)).alloc (.cells #[.int .i64 0] 35) = w3 at *
  generalize w2.heap.size + 1 = wb at *
  generalize w2.heap.size = ob at *
  have k3 := HE0.out.pk.cell; have l3 := HE0.out.pk.lt; have k4 := HE0.out.tk.cell; have l4 := HE0.out.tk.lt
  unfold triV at MV
  unfold triA at k4
  go_wp2_with fail
  refine (MV.out _ _ _ _ w3 HE0.out n1 n2 n3).mono ?_; rintro e w4 ⟨rfl, hs, -⟩
  clear MV k3 l3 k4 l4 HE0
  generalize hl : hopsX a b t = l at *
  have HL := Lib.hid hl; clear hl
  obtain ⟨A, c, hq, hO⟩ := hs.q
  have kw := hs.wk.cell; have lw := hs.wk.lt; have kq := hq.cell; have lq := hq.lt
  have HO := Lib.hid hO; have HB := Lib.hid hs.bel
  clear hs hq hO
  go_wp2_with fail
  go_region
  all_goals
    go_wp2_with fail
    refine bodyPost_ret (v := .tuple #[.int .i64 ft, .slice A l.length c, .int .i64 0]) (by simp [results, Try.results36, go_sem, *]) rfl ⟨A, c, by rw [HL.out], ?_, ?_⟩
    · rw [HL.out]; exact own_below HO.out (Below.refl _ w4).drew (Nat.le_refl _)
    · exact HB.out.drew

set_option maxRecDepth 100000 in
theorem cboth_any (v1 v2 : Value) (m1 m2 : MachL) (w : World) (h1 : MachAt w v1 m1) (h2 : MachAt w v2 m2) (k1 : Valid m1) (k2 : Valid m2) :
    Calls Try.prog 35 #[v1, v2] w fun e w' => e = .returned (.int .i64 0) ∧ Below w.heap.size w w' := by
  have CH1 := Lib.hid (fun W' (hb : Below w.heap.size w W') => Check_ok v1 m1 W' (h1.below hb) k1)
  have CH2 := Lib.hid (fun W' (hb : Below w.heap.size w W') => Check_ok v2 m2 W' (h2.below hb) k2)
  obtain ⟨A1, c1, rfl, -⟩ := h1
  obtain ⟨A2, c2, rfl, -⟩ := h2
  go_enter Try.func35, Try.ntmps35
  go_wp2_with fail
  refine (CH1.out _ (by repeat' (first | exact Below.refl _ _ | assumption | refine Below.drew ?_ | refine Below.alloc ?_ (by first | omega | (simp; done) | (simp; omega)) _ | refine Below.setCell ?_ (by first | omega | (simp; done) | (simp; omega)) _))).mono ?_; rintro e w1 ⟨rfl, bel⟩; obtain ⟨c1, f1⟩ := bcell bel; have z1 := bel.size; simp at z1; (try have y0 : w.heap.size < w1.heap.size := by omega); (try have y1 : w.heap.size + 1 < w1.heap.size := by omega); (try have y2 : w.heap.size + 1 + 1 < w1.heap.size := by omega); (try have y3 : w.heap.size + 1 + 1 + 1 < w1.heap.size := by omega); (try have y4 : w.heap.size + 1 + 1 + 1 + 1 < w1.heap.size := by omega); (try have y5 : w.heap.size + 1 + 1 + 1 + 1 + 1 < w1.heap.size := by omega); (try have y6 : w.heap.size + 1 + 1 + 1 + 1 + 1 + 1 < w1.heap.size := by omega)
  go_wp2_with fail
  refine (CH2.out _ (by repeat' (first | exact Below.refl _ _ | assumption | refine Below.step ?_ bel | refine Below.drew ?_ | refine Below.alloc ?_ (by first | omega | (simp; done) | (simp; omega)) _ | refine Below.setCell ?_ (by first | omega | (simp; done) | (simp; omega)) _))).mono ?_; rintro e w2 ⟨rfl, b2⟩
  go_wp2_with fail
  go_ret
  exact ⟨rfl, Below.trans ((by repeat' (first | exact Below.refl _ _ | assumption | refine Below.step ?_ bel | refine Below.drew ?_ | refine Below.alloc ?_ (by first | omega | (simp; done) | (simp; omega)) _ | refine Below.setCell ?_ (by first | omega | (simp; done) | (simp; omega)) _)) : Below w.heap.size w w1) (b2.mono (by omega))⟩
end Go.Proofs.Ytikkmoleneioeaa

namespace Go.Proofs.Ytikkmoleneioeaa
open Go.RowKit

def triC (t : TriL) : List Value := [.int .i64 t.a, .int .i64 t.b, .int .i64 t.f]
theorem eltTri : Elt Try.prog 85 83 (.agg #[.int .i64 0, .int .i64 0, .int .i64 0]) 3 24 := ⟨Try.underlying85, by kernel_rfl, rfl, by omega⟩
theorem row_ne_map {w : World} {base : Nat} {e : TypeId} {size n : Nat} {v : Value} {xs : List Value} (h : w.ownsRow base e size v n xs) {b : Nat} {D : List (TriL × Int)} (hb : MapB w b triV intV D) : v.ownBlock ≠ some b := by
  intro hh
  have h1 := hb.blk
  rcases h.2 with ⟨hv, _⟩ | ⟨g, cap, cur, hv, _, hg, _⟩
  · rw [hv] at hh; simp [Value.ownBlock] at hh
  · rw [hv] at hh; simp [Value.ownBlock] at hh
    subst hh
    rw [hg] at h1
    simp [mapObj] at h1
theorem blk_ne_map {w : World} {k b : Nat} {cs : Array Value} {ty : TypeId} {D : List (TriL × Int)} (h : Blk w k cs ty) (hb : MapB w b triV intV D) : k ≠ b := by
  intro e
  subst e
  have h1 := hb.blk
  unfold Blk at h
  rw [h] at h1
  simp [mapObj] at h1
theorem ne_none {a b : Option Nat} (h : ∀ k, b = some k → a ≠ some k) : a = none ∨ a ≠ b := by
  cases b with
  | none =>
    cases a with
    | none => exact .inl rfl
    | some k => right; simp
  | some k => exact .inr (h k rfl)
/-- boxes, map, rows -/
structure Co (w : World) (p1 : Int) (AA : Option Addr) (n1 ca : Nat) (p2 : Int) (AB : Option Addr) (n2 cb : Nat) (mpb mk : Nat) (W : World) (D : List (TriL × Int)) (tv : Value) (T : List TriL) (sv : Value) (vs : List Value) (S : List StateL) : Prop where
  ma : Blk W w.heap.size #[.int .i64 p1, .slice AA n1 ca] 28
  mb : Blk W (w.heap.size + 1) #[.int .i64 p2, .slice AB n2 cb] 28
  rk : Blk W (w.heap.size + 2) #[.int .i64 0, .slice none 0 0] 28
  mp : MapB W mpb triV intV D
  tr : W.ownsRow w.heap.size 83 3 tv T.length (T.flatMap triC)
  mc : Blk W mk #[.int .i64 0, sv] 28
  own : OwnStV W w.heap.size sv vs S
  bel : Below w.heap.size w W
  g1 : w.heap.size ≤ mpb
  g2 : w.heap.size + 2 < mk
section
variable {w : World} {p1 : Int} {AA : Option Addr} {n1 ca : Nat} {p2 : Int} {AB : Option Addr} {n2 cb : Nat} {mpb mk : Nat} {W W' : World} {D D' : List (TriL × Int)} {tv : Value} {T : List TriL} {sv : Value} {vs : List Value} {S : List StateL}
theorem Co.size (h : Co w p1 AA n1 ca p2 AB n2 cb mpb mk W D tv T sv vs S) : w.heap.size ≤ W.heap.size := h.bel.size
theorem Co.keep (h : Co w p1 AA n1 ca p2 AB n2 cb mpb mk W D tv T sv vs S) (hb : Below W.heap.size W W') : Co w p1 AA n1 ca p2 AB n2 cb mpb mk W' D tv T sv vs S :=
  ⟨h.ma.step hb, h.mb.step hb, h.rk.step hb, h.mp.below hb (Nat.le_refl _), own_below h.tr hb (Nat.le_refl _), h.mc.step hb, h.own.below hb (Nat.le_refl _), h.bel.trans (hb.mono h.bel.size), h.g1, h.g2⟩
/-- block m becomes another one: what is not in it stays -/
theorem OwnStV.grown_at (h : OwnStV W w.heap.size sv vs S) {row : Option Nat} (hg : W.grownBy W' row) (h1 : sv.ownBlock = none ∨ sv.ownBlock ≠ row) (h2 : ∀ i (hi : i < vs.length), vs[i].ownBlock = none ∨ vs[i].ownBlock ≠ row) : OwnStV W' w.heap.size sv vs S :=
  ⟨h.len, h.row.kept hg h1, fun i hi hi' => (h.arcs i hi hi').grown hg (h2 i hi')⟩
theorem Co.map (h : Co w p1 AA n1 ca p2 AB n2 cb mpb mk W D tv T sv vs S) (hm : MapB W' mpb triV intV D') (hg : W.grownBy W' (some mpb)) : Co w p1 AA n1 ca p2 AB n2 cb mpb mk W' D' tv T sv vs S := by
  have hm0 := h.mp
  have bk : ∀ {k : Nat} {cs : Array Value} {ty : TypeId}, Blk W k cs ty → Blk W' k cs ty := fun hb => hb.grown hg (fun e => blk_ne_map hb hm0 (by simpa using e))
  refine ⟨bk h.ma, bk h.mb, bk h.rk, hm, h.tr.kept hg (.inr (row_ne_map h.tr hm0)), bk h.mc, ?_, h.bel.grown hg h.bel.size (fun k hk => by cases hk; exact h.g1), h.g1, h.g2⟩
  exact h.own.grown_at hg (.inr (row_ne_map h.own.row hm0)) (fun i hi => .inr (row_ne_map (h.own.arcs i (by have := h.own.len; omega) hi) hm0))
theorem Co.todo (h : Co w p1 AA n1 ca p2 AB n2 cb mpb mk W D tv T sv vs S) (hg : W.grownBy W' tv.ownBlock) {tv' : Value} {T' : List TriL} (hn : W'.ownsRow w.heap.size 83 3 tv' T'.length (T'.flatMap triC)) : Co w p1 AA n1 ca p2 AB n2 cb mpb mk W' D tv' T' sv vs S := by
  have bk : ∀ {k : Nat} {cs : Array Value} {ty : TypeId}, ty ≠ 83 → Blk W k cs ty → Blk W' k cs ty := fun hty hb => hb.grown hg (fun e => row_ne_blk h.tr hb (fun e2 => hty e2.symm) e.symm)
  have hm : MapB W' mpb triV intV D := h.mp.grown hg (fun e => row_ne_map h.tr h.mp e.symm)
  refine ⟨bk (by decide) h.ma, bk (by decide) h.mb, bk (by decide) h.rk, hm, hn, bk (by decide) h.mc, ?_, below_app h.bel h.tr hg (Nat.le_refl _) h.bel.size, h.g1, h.g2⟩
  exact h.own.grown_at hg (own_ne h.own.row h.tr (by decide)) (fun i hi => own_ne (h.own.arcs i (by have := h.own.len; omega) hi) h.tr (by decide))
theorem Co.arcs (h : Co w p1 AA n1 ca p2 AB n2 cb mpb mk W D tv T sv vs S) {Ba : Nat} {av : Value} {L : List ArcL} (ha : OwnArcs W Ba av L) (hBa : w.heap.size ≤ Ba) (hBW : Ba ≤ W.heap.size) (hvs : ∀ i (hi : i < vs.length) k, vs[i].ownBlock = some k → k < Ba) (hg : W.grownBy W' av.ownBlock) : Co w p1 AA n1 ca p2 AB n2 cb mpb mk W' D tv T sv vs S := by
  have bk : ∀ {k : Nat} {cs : Array Value} {ty : TypeId}, ty ≠ 65 → Blk W k cs ty → Blk W' k cs ty := fun hty hb => hb.grown hg (fun e => row_ne_blk ha hb (fun e2 => hty e2.symm) e.symm)
  have hm : MapB W' mpb triV intV D := h.mp.grown hg (fun e => row_ne_map ha h.mp e.symm)
  refine ⟨bk (by decide) h.ma, bk (by decide) h.mb, bk (by decide) h.rk, hm, h.tr.kept hg (own_ne h.tr ha (by decide)), bk (by decide) h.mc, ?_, below_app h.bel ha hg hBa hBW, h.g1, h.g2⟩
  exact h.own.grown_at hg (own_ne h.own.row ha (by decide)) (fun i hi => ne_none (fun k hk e => by have := hvs i hi k e; have := (ha.lt k hk).1; omega))
/-- a cell of a state's box is set -/
theorem Co.box (h : Co w p1 AA n1 ca p2 AB n2 cb mpb mk W D tv T sv vs S) {xb o : Nat} {cs : Array Value} (hx : Blk W xb cs 59) (hxb : w.heap.size ≤ xb) (hsx : sv.ownBlock ≠ some xb) (u : Value) : Co w p1 AA n1 ca p2 AB n2 cb mpb mk (W.setCell ⟨xb, o, none⟩ u) D tv T sv vs S := by
  have bk : ∀ {k : Nat} {cs' : Array Value} {ty : TypeId}, ty ≠ 59 → Blk W k cs' ty → Blk (W.setCell ⟨xb, o, none⟩ u) k cs' ty := fun hty hb => hb.far (a := ⟨xb, o, none⟩) (fun e => by
    simp only at e; subst e
    unfold Blk at hx hb
    rw [hx] at hb; simp at hb; exact hty hb.2.symm) u
  refine ⟨bk (by decide) h.ma, bk (by decide) h.mb, bk (by decide) h.rk, h.mp.setCell (a := ⟨xb, o, none⟩) (fun e => blk_ne_map hx h.mp e.symm) u, own_setCell h.tr (row_ne_blk h.tr hx (by decide)) u, bk (by decide) h.mc, ⟨h.own.len, own_setCell h.own.row hsx u, fun i hi hi' => (h.own.arcs i hi hi').setCell (row_ne_blk (h.own.arcs i hi hi') hx (by decide)) u⟩, h.bel.setCell hxb u, h.g1, h.g2⟩
/-- a state is put behind -/
theorem Co.state (h : Co w p1 AA n1 ca p2 AB n2 cb mpb mk W D tv T sv vs S) (s : StateL) {av : Value} (ha : OwnArcs W w.heap.size av s.arcs) (hg : W.grownBy W' sv.ownBlock) {g cap n : Nat} (hn : n = S.length + 1)
    (hx : W'.ownsRow w.heap.size 59 2 (.slice (some ⟨g, 0, none⟩) n cap) n (statesCells ((S.map (·.final)).zip vs) ++ [.int .i64 s.final, av])) : Co w p1 AA n1 ca p2 AB n2 cb mpb mk (W'.setCell ⟨mk, 1, none⟩ (.slice (some ⟨g, 0, none⟩) n cap)) D tv T (.slice (some ⟨g, 0, none⟩) n cap) (vs ++ [av]) (S ++ [s]) := by
  have hg2 := h.g2
  have hrow := h.own.row
  have bk : ∀ {k : Nat} {cs' : Array Value} {ty : TypeId}, ty ≠ 59 → k ≠ mk → Blk W k cs' ty → Blk (W'.setCell ⟨mk, 1, none⟩ (.slice (some ⟨g, 0, none⟩) n cap)) k cs' ty := fun hty hk hb => (hb.grown hg (fun e => row_ne_blk hrow hb (fun e2 => hty e2.symm) e.symm)).far (a := ⟨mk, 1, none⟩) hk _
  have mc' : Blk W' mk #[.int .i64 0, sv] 28 := h.mc.grown hg (fun e => row_ne_blk hrow h.mc (by decide) e.symm)
  have mp' : MapB W' mpb triV intV D := h.mp.grown hg (fun e => row_ne_map hrow h.mp e.symm)
  have tr' := h.tr.kept hg (own_ne h.tr hrow (by decide))
  have ow := h.own.app s ha hg hn hx
  have bel' : Below w.heap.size w W' := below_app h.bel hrow hg (Nat.le_refl _) h.bel.size
  refine ⟨bk (by decide) (by omega) h.ma, bk (by decide) (by omega) h.mb, bk (by decide) (by omega) h.rk, mp'.setCell (a := ⟨mk, 1, none⟩) (fun e => blk_ne_map mc' mp' e.symm) _, own_setCell tr' (row_ne_blk tr' mc' (by decide)) _, (mc'.put 1 _).eq (by simp), ⟨ow.len, own_setCell ow.row (row_ne_blk ow.row mc' (by decide)) _, fun i hi hi' => (ow.arcs i hi hi').setCell (row_ne_blk (ow.arcs i hi hi') mc' (by decide)) _⟩, bel'.setCell (by simp only; omega) _, h.g1, h.g2⟩
end
end Go.Proofs.Ytikkmoleneioeaa
