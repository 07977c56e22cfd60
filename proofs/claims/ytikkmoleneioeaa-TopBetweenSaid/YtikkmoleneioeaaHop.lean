/- compose's hop. -/
import Derived.Test.YtikkmoleneioeaaComposeLoop
import Derived.Test.YtikkmoleneioeaaKeyTri
import Derived.Test.YtikkmoleneioeaaPick
import Derived.Test.YtikkmoleneioeaaNum
import Derived.Test.YtikkmoleneioeaaSlices
import Derived.StillTailTactics
import Derived.Deep.DeepCutAuto
import Derived.BigQuiet
import Derived.IntWalk
import Derived.LoopTactic
namespace Go.Proofs.Ytikkmoleneioeaa
open Go.RowKit

abbrev hopV (h : HopL) : Value := .agg #[.int .i64 h.inn, .int .i64 h.out, .int .i64 h.wt, .int .i64 h.goes.a, .int .i64 h.goes.b, .int .i64 h.goes.f]
/-- an arc in memory, at an address -/
structure ArcCells (w : World) (b o : Nat) (x : ArcL) : Prop where
  c0 : w.cell? ⟨b, o, none⟩ = some (.int .i64 x.inn)
  c1 : w.cell? ⟨b, o + 1, none⟩ = some (.int .i64 x.out)
  c2 : w.cell? ⟨b, o + 2, none⟩ = some (.int .i64 x.wt)
  c3 : w.cell? ⟨b, o + 3, none⟩ = some (.int .i64 x.to)
  lt : b < w.heap.size
theorem ArcCells.step {w w' : World} {b o : Nat} {x : ArcL} (h : ArcCells w b o x) {B : Nat} (hb : Below B w w') (hB : w.heap.size ≤ B) : ArcCells w' b o x :=
  ⟨cell_keep hb hB h.c0, cell_keep hb hB h.c1, cell_keep hb hB h.c2, cell_keep hb hB h.c3, Nat.lt_of_lt_of_le h.lt hb.size⟩

set_option maxRecDepth 100000 in
set_option maxHeartbeats 4000000 in
theorem hop_left (p1 p2 p3 p4 : Value) (t : TriL) (b o : Nat) (x : ArcL) (n : Int) (w : World) (hx : ArcCells w b o x) (hv : ValidArc n x) :
    Calls Try.prog 57 #[.agg #[p1, p2, p3, p4], triV t, .pointer (some ⟨b, o, none⟩), .pointer none, .int .i64 1] w fun e w' => e = .returned (.tuple #[hopV (hopLt t x), .int .i64 0]) ∧ Below w.heap.size w w' := by
  have HX := Lib.hid hx
  have hto := hv.t0
  obtain ⟨tn, htn⟩ : ∃ tn : Nat, x.to = tn := ⟨x.to.toNat, by omega⟩
  have HE : Hid (hopV (hopLt t x) = .agg #[.int .i64 x.inn, .int .i64 0, .int .i64 x.wt, .int .i64 tn, .int .i64 t.b, .int .i64 1]) := Lib.hid (by simp [hopLt, htn])
  rw [HE.out]
  have c0 := hx.c0; have c1 := hx.c1; have c2 := hx.c2; have c3 := hx.c3; have lx := hx.lt
  rw [htn] at c3
  unfold triV
  clear hx hv hto htn HE
  go_enter Try.func57, Try.ntmps57
  go_upto_region 4 with fail
  have Z0 : Blk ((((w.alloc (.cells #[p1, p2, p3, p4] 89)).alloc (.cells #[.int .i64 t.a, .int .i64 t.b, .int .i64 t.f] 83)).alloc (.cells #[.int .i64 0, .int .i64 0, .int .i64 0, .int .i64 0, .int .i64 0, .int .i64 0] 92)).alloc (.cells #[.int .i64 0, .int .i64 0, .int .i64 0, .int .i64 t.a, .int .i64 t.b, .int .i64 1] 92)) (w.heap.size + 1 + 1) _ _ := (Blk.new' (by simp)).alloc _
  have Z1 : Blk ((((w.alloc (.cells #[p1, p2, p3, p4] 89)).alloc (.cells #[.int .i64 t.a, .int .i64 t.b, .int .i64 t.f] 83)).alloc (.cells #[.int .i64 0, .int .i64 0, .int .i64 0, .int .i64 0, .int .i64 0, .int .i64 0] 92)).alloc (.cells #[.int .i64 0, .int .i64 0, .int .i64 0, .int .i64 t.a, .int .i64 t.b, .int .i64 1] 92)) (w.heap.size + 1 + 1 + 1) _ _ := Blk.new' (by simp)
  have bel : Below w.heap.size w ((((w.alloc (.cells #[p1, p2, p3, p4] 89)).alloc (.cells #[.int .i64 t.a, .int .i64 t.b, .int .i64 t.f] 83)).alloc (.cells #[.int .i64 0, .int .i64 0, .int .i64 0, .int .i64 0, .int .i64 0, .int .i64 0] 92)).alloc (.cells #[.int .i64 0, .int .i64 0, .int .i64 0, .int .i64 t.a, .int .i64 t.b, .int .i64 1] 92)) := (by repeat' (first | exact Below.refl _ _ | assumption | refine Below.drew ?_ | refine Below.alloc ?_ (by first | omega | (simp; done) | (simp; omega)) _ | refine Below.setCell ?_ (by first | omega | (simp; done) | (simp; omega)) _))
  have d0 := cell_keep bel (Nat.le_refl _) c0; have d1 := cell_keep bel (Nat.le_refl _) c1; have d2 := cell_keep bel (Nat.le_refl _) c2; have d3 := cell_keep bel (Nat.le_refl _) c3
  generalize (((w.alloc (.cells #[p1, p2, p3, p4] 89)).alloc (.cells #[.int .i64 t.a, .int .i64 t.b, .int .i64 t.f] 83)).alloc (.cells #[.int .i64 0, .int .i64 0, .int .i64 0, .int .i64 0, .int .i64 0, .int .i64 0] 92)).alloc (.cells #[.int .i64 0, .int .i64 0, .int .i64 0, .int .i64 t.a, .int .i64 t.b, .int .i64 1] 92) = W at *
  have g1 : w.heap.size ≤ w.heap.size + 1 + 1 := by omega
  have g2 : w.heap.size ≤ w.heap.size + 1 + 1 + 1 := by omega
  have g3 : w.heap.size + 1 + 1 ≠ w.heap.size + 1 + 1 + 1 := by omega
  generalize w.heap.size + 1 + 1 + 1 = h1 at *
  generalize w.heap.size + 1 + 1 = h0 at *
  have k0 := Z0.cell; have k1 := Z1.cell; have e0 := Z0.froz; have e1 := Z1.froz; have l0 := Z0.lt; have l1 := Z1.lt
  have lb := Nat.lt_of_lt_of_le lx bel.size
  clear c0 c1 c2 c3
  go_region
  have Z2 : Blk ((W.setCell ⟨h1, 0, none⟩ (.int .i64 x.inn)).setCell ⟨h1, 3, none⟩ (.int .i64 tn)).drew h1 #[.int .i64 x.inn, .int .i64 0, .int .i64 0, .int .i64 tn, .int .i64 t.b, .int .i64 1] 92 := ((Z1.put 0 _).put 3 _).drew.eq (by simp)
  have Y2 := (((Z0.far (a := ⟨h1, 0, none⟩) g3 (.int .i64 x.inn)).far (a := ⟨h1, 3, none⟩) g3 (.int .i64 tn)).drew)
  have bel2 : Below w.heap.size w ((W.setCell ⟨h1, 0, none⟩ (.int .i64 x.inn)).setCell ⟨h1, 3, none⟩ (.int .i64 tn)).drew := ((bel.setCell g2 _).setCell g2 _).drew
  clear k0 k1 e0 e1 l0 l1 lb d0 d1 d2 d3 Z0 Z1 bel
  generalize ((W.setCell ⟨h1, 0, none⟩ (.int .i64 x.inn)).setCell ⟨h1, 3, none⟩ (.int .i64 tn)).drew = W2 at *
  have k0 := Y2.cell; have k1 := Z2.cell; have e0 := Y2.froz; have e1 := Z2.froz; have l0 := Y2.lt; have l1 := Z2.lt
  go_upto_region 12 with fail
  have Z3 := (Z2.put 2 (.int .i64 x.wt)).eq (show _ = #[.int .i64 x.inn, .int .i64 0, .int .i64 x.wt, .int .i64 tn, .int .i64 t.b, .int .i64 1] by simp)
  have Y3 := Y2.far (a := ⟨h1, 2, none⟩) g3 (.int .i64 x.wt)
  have bel3 : Below w.heap.size w (W2.setCell ⟨h1, 2, none⟩ (.int .i64 x.wt)) := bel2.setCell g2 _
  clear k0 k1 e0 e1 l0 l1 Z2 Y2 bel2
  generalize W2.setCell ⟨h1, 2, none⟩ (.int .i64 x.wt) = W3 at *
  have k0 := Y3.cell; have k1 := Z3.cell; have e0 := Y3.froz; have e1 := Z3.froz; have l0 := Y3.lt; have l1 := Z3.lt
  go_wp2_with fail
  have Z4 := ((((((Y3.put 0 (.int .i64 x.inn)).put 1 (.int .i64 0)).put 2 (.int .i64 x.wt)).put 3 (.int .i64 tn)).put 4 (.int .i64 t.b)).put 5 (.int .i64 1)).eq (show _ = #[.int .i64 x.inn, .int .i64 0, .int .i64 x.wt, .int .i64 tn, .int .i64 t.b, .int .i64 1] by simp)
  have bel4 : Below w.heap.size w ((((((W3.setCell ⟨h0, 0, none⟩ (.int .i64 x.inn)).setCell ⟨h0, 1, none⟩ (.int .i64 0)).setCell ⟨h0, 2, none⟩ (.int .i64 x.wt)).setCell ⟨h0, 3, none⟩ (.int .i64 tn)).setCell ⟨h0, 4, none⟩ (.int .i64 t.b)).setCell ⟨h0, 5, none⟩ (.int .i64 1)) := (((((bel3.setCell g1 _).setCell g1 _).setCell g1 _).setCell g1 _).setCell g1 _).setCell g1 _
  clear k0 k1 e0 e1 l0 l1 Z3 Y3 bel3
  generalize ((((((W3.setCell ⟨h0, 0, none⟩ (.int .i64 x.inn)).setCell ⟨h0, 1, none⟩ (.int .i64 0)).setCell ⟨h0, 2, none⟩ (.int .i64 x.wt)).setCell ⟨h0, 3, none⟩ (.int .i64 tn)).setCell ⟨h0, 4, none⟩ (.int .i64 t.b)).setCell ⟨h0, 5, none⟩ (.int .i64 1)) = W4 at *
  have k0 := Z4.cell; have l0 := Z4.lt
  refine bodyPost_ret (v := .tuple #[.agg #[.int .i64 x.inn, .int .i64 0, .int .i64 x.wt, .int .i64 tn, .int .i64 t.b, .int .i64 1], .int .i64 0]) (by simp [results, Try.results57, go_sem, *]) rfl ⟨rfl, bel4⟩

set_option maxRecDepth 100000 in
set_option maxHeartbeats 4000000 in
theorem hop_right (p1 p2 p3 p4 : Value) (t : TriL) (b o : Nat) (y : ArcL) (n : Int) (w : World) (hy : ArcCells w b o y) (hv : ValidArc n y) :
    Calls Try.prog 57 #[.agg #[p1, p2, p3, p4], triV t, .pointer none, .pointer (some ⟨b, o, none⟩), .int .i64 2] w fun e w' => e = .returned (.tuple #[hopV (hopR t y), .int .i64 0]) ∧ Below w.heap.size w w' := by
  have hto := hv.t0; have w0 := hv.w0; have w1 := hv.w1
  obtain ⟨yn, hyn⟩ : ∃ yn : Nat, y.to = yn := ⟨y.to.toNat, by omega⟩
  have HE : Hid (hopV (hopR t y) = .agg #[.int .i64 0, .int .i64 y.out, .int .i64 y.wt, .int .i64 t.a, .int .i64 yn, .int .i64 2]) := Lib.hid (by simp [hopR, hyn])
  have TM := Lib.hid (fun W => Times_ok 0 y.wt W (by omega) (by omega) w0 w1 (by omega))
  rw [Int.zero_add] at TM
  rw [HE.out]
  have c0 := hy.c0; have c1 := hy.c1; have c2 := hy.c2; have c3 := hy.c3; have lx := hy.lt
  rw [hyn] at c3
  unfold triV
  clear hy hv hto hyn HE w0 w1
  go_enter Try.func57, Try.ntmps57
  go_upto_region 6 with fail
  have Z0 : Blk ((((w.alloc (.cells #[p1, p2, p3, p4] 89)).alloc (.cells #[.int .i64 t.a, .int .i64 t.b, .int .i64 t.f] 83)).alloc (.cells #[.int .i64 0, .int .i64 0, .int .i64 0, .int .i64 0, .int .i64 0, .int .i64 0] 92)).alloc (.cells #[.int .i64 0, .int .i64 0, .int .i64 0, .int .i64 t.a, .int .i64 t.b, .int .i64 2] 92)) (w.heap.size + 1 + 1) _ _ := (Blk.new' (by simp)).alloc _
  have Z1 : Blk ((((w.alloc (.cells #[p1, p2, p3, p4] 89)).alloc (.cells #[.int .i64 t.a, .int .i64 t.b, .int .i64 t.f] 83)).alloc (.cells #[.int .i64 0, .int .i64 0, .int .i64 0, .int .i64 0, .int .i64 0, .int .i64 0] 92)).alloc (.cells #[.int .i64 0, .int .i64 0, .int .i64 0, .int .i64 t.a, .int .i64 t.b, .int .i64 2] 92)) (w.heap.size + 1 + 1 + 1) _ _ := Blk.new' (by simp)
  have bel : Below w.heap.size w ((((w.alloc (.cells #[p1, p2, p3, p4] 89)).alloc (.cells #[.int .i64 t.a, .int .i64 t.b, .int .i64 t.f] 83)).alloc (.cells #[.int .i64 0, .int .i64 0, .int .i64 0, .int .i64 0, .int .i64 0, .int .i64 0] 92)).alloc (.cells #[.int .i64 0, .int .i64 0, .int .i64 0, .int .i64 t.a, .int .i64 t.b, .int .i64 2] 92)) := (by repeat' (first | exact Below.refl _ _ | assumption | refine Below.drew ?_ | refine Below.alloc ?_ (by first | omega | (simp; done) | (simp; omega)) _ | refine Below.setCell ?_ (by first | omega | (simp; done) | (simp; omega)) _))
  have c0' := cell_keep bel (Nat.le_refl _) c0
  have c1' := cell_keep bel (Nat.le_refl _) c1
  have c2' := cell_keep bel (Nat.le_refl _) c2
  have c3' := cell_keep bel (Nat.le_refl _) c3
  generalize (((w.alloc (.cells #[p1, p2, p3, p4] 89)).alloc (.cells #[.int .i64 t.a, .int .i64 t.b, .int .i64 t.f] 83)).alloc (.cells #[.int .i64 0, .int .i64 0, .int .i64 0, .int .i64 0, .int .i64 0, .int .i64 0] 92)).alloc (.cells #[.int .i64 0, .int .i64 0, .int .i64 0, .int .i64 t.a, .int .i64 t.b, .int .i64 2] 92) = W at *
  have g1 : w.heap.size ≤ w.heap.size + 1 + 1 := by omega
  have g2 : w.heap.size ≤ w.heap.size + 1 + 1 + 1 := by omega
  have g3 : w.heap.size + 1 + 1 ≠ w.heap.size + 1 + 1 + 1 := by omega
  generalize w.heap.size + 1 + 1 + 1 = h1 at *
  generalize w.heap.size + 1 + 1 = h0 at *
  have k0 := Z0.cell; have k1 := Z1.cell; have e0 := Z0.froz; have e1 := Z1.froz; have l0 := Z0.lt; have l1 := Z1.lt
  have lb := Nat.lt_of_lt_of_le lx bel.size
  clear c0 c1 c2 c3
  go_region
  have Z2 : Blk ((W.setCell ⟨h1, 1, none⟩ (.int .i64 y.out)).setCell ⟨h1, 4, none⟩ (.int .i64 yn)).drew h1 #[.int .i64 0, .int .i64 y.out, .int .i64 0, .int .i64 t.a, .int .i64 yn, .int .i64 2] 92 := ((Z1.put 1 _).put 4 _).drew.eq (by simp)
  have Y2 := (((Z0.far (a := ⟨h1, 1, none⟩) g3 (.int .i64 y.out)).far (a := ⟨h1, 4, none⟩) g3 (.int .i64 yn)).drew)
  have bel2 : Below w.heap.size w ((W.setCell ⟨h1, 1, none⟩ (.int .i64 y.out)).setCell ⟨h1, 4, none⟩ (.int .i64 yn)).drew := ((bel.setCell g2 _).setCell g2 _).drew
  have cw : (((W.setCell ⟨h1, 1, none⟩ (.int .i64 y.out)).setCell ⟨h1, 4, none⟩ (.int .i64 yn)).drew).cell? ⟨b, o + 2, none⟩ = some (.int .i64 y.wt) := cell_far _ (cell_far _ c2' (by intro e; simp at e <;> omega)) (by intro e; simp at e <;> omega)
  have lw : b < (((W.setCell ⟨h1, 1, none⟩ (.int .i64 y.out)).setCell ⟨h1, 4, none⟩ (.int .i64 yn)).drew).heap.size := by simpa [World.setCell, World.drew] using lb
  clear k0 k1 e0 e1 l0 l1 lb c0' c1' c2' c3' Z0 Z1 bel
  generalize ((W.setCell ⟨h1, 1, none⟩ (.int .i64 y.out)).setCell ⟨h1, 4, none⟩ (.int .i64 yn)).drew = W2 at *
  have k0 := Y2.cell; have k1 := Z2.cell; have e0 := Y2.froz; have e1 := Z2.froz; have l0 := Y2.lt; have l1 := Z2.lt
  go_wp2_with fail
  refine (TM.out _).mono ?_; rintro e w' ⟨rfl, rfl⟩
  go_upto_region 12 with fail
  have Z3 := (Z2.put 2 (.int .i64 y.wt)).eq (show _ = #[.int .i64 0, .int .i64 y.out, .int .i64 y.wt, .int .i64 t.a, .int .i64 yn, .int .i64 2] by simp)
  have Y3 := Y2.far (a := ⟨h1, 2, none⟩) g3 (.int .i64 y.wt)
  have bel3 : Below w.heap.size w (W2.setCell ⟨h1, 2, none⟩ (.int .i64 y.wt)) := bel2.setCell g2 _
  clear k0 k1 e0 e1 l0 l1 Z2 Y2 bel2
  generalize W2.setCell ⟨h1, 2, none⟩ (.int .i64 y.wt) = W3 at *
  have k0 := Y3.cell; have k1 := Z3.cell; have e0 := Y3.froz; have e1 := Z3.froz; have l0 := Y3.lt; have l1 := Z3.lt
  go_wp2_with fail
  have Z4 := ((((((Y3.put 0 (.int .i64 0)).put 1 (.int .i64 y.out)).put 2 (.int .i64 y.wt)).put 3 (.int .i64 t.a)).put 4 (.int .i64 yn)).put 5 (.int .i64 2)).eq (show _ = #[.int .i64 0, .int .i64 y.out, .int .i64 y.wt, .int .i64 t.a, .int .i64 yn, .int .i64 2] by simp)
  have bel4 : Below w.heap.size w ((((((W3.setCell ⟨h0, 0, none⟩ (.int .i64 0)).setCell ⟨h0, 1, none⟩ (.int .i64 y.out)).setCell ⟨h0, 2, none⟩ (.int .i64 y.wt)).setCell ⟨h0, 3, none⟩ (.int .i64 t.a)).setCell ⟨h0, 4, none⟩ (.int .i64 yn)).setCell ⟨h0, 5, none⟩ (.int .i64 2)) := (((((bel3.setCell g1 _).setCell g1 _).setCell g1 _).setCell g1 _).setCell g1 _).setCell g1 _
  clear k0 k1 e0 e1 l0 l1 Z3 Y3 bel3
  generalize ((((((W3.setCell ⟨h0, 0, none⟩ (.int .i64 0)).setCell ⟨h0, 1, none⟩ (.int .i64 y.out)).setCell ⟨h0, 2, none⟩ (.int .i64 y.wt)).setCell ⟨h0, 3, none⟩ (.int .i64 t.a)).setCell ⟨h0, 4, none⟩ (.int .i64 yn)).setCell ⟨h0, 5, none⟩ (.int .i64 2)) = W4 at *
  have k0 := Z4.cell; have l0 := Z4.lt
  refine bodyPost_ret (v := .tuple #[.agg #[.int .i64 0, .int .i64 y.out, .int .i64 y.wt, .int .i64 t.a, .int .i64 yn, .int .i64 2], .int .i64 0]) (by simp [results, Try.results57, go_sem, *]) rfl ⟨rfl, bel4⟩

set_option maxRecDepth 100000 in
set_option maxHeartbeats 4000000 in
theorem hop_both (p1 p2 p3 p4 : Value) (t : TriL) (b o b2 o2 : Nat) (x y : ArcL) (n n2 : Int) (w : World) (hx : ArcCells w b o x) (hvx : ValidArc n x) (hy : ArcCells w b2 o2 y) (hv : ValidArc n2 y) (hw : x.wt + y.wt ≤ 1000000000) :
    Calls Try.prog 57 #[.agg #[p1, p2, p3, p4], triV t, .pointer (some ⟨b, o, none⟩), .pointer (some ⟨b2, o2, none⟩), .int .i64 0] w fun e w' => e = .returned (.tuple #[hopV (hopB x y), .int .i64 0]) ∧ Below w.heap.size w w' := by
  have hto := hv.t0; have w0 := hv.w0; have w1 := hv.w1
  have hto2 := hvx.t0; have w02 := hvx.w0; have w12 := hvx.w1
  obtain ⟨yn, hyn⟩ : ∃ yn : Nat, y.to = yn := ⟨y.to.toNat, by omega⟩
  obtain ⟨tn, htn⟩ : ∃ tn : Nat, x.to = tn := ⟨x.to.toNat, by omega⟩
  have HE : Hid (hopV (hopB x y) = .agg #[.int .i64 x.inn, .int .i64 y.out, .int .i64 (x.wt + y.wt), .int .i64 tn, .int .i64 yn, .int .i64 0]) := Lib.hid (by simp [hopB, hyn, htn])
  have TM := Lib.hid (fun W => Times_ok x.wt y.wt W w02 w12 w0 w1 hw)
  rw [HE.out]
  have c0 := hx.c0; have c1 := hx.c1; have c2 := hx.c2; have c3 := hx.c3; have lx := hx.lt
  have d0 := hy.c0; have d1 := hy.c1; have d2 := hy.c2; have d3 := hy.c3; have ly := hy.lt
  rw [htn] at c3
  rw [hyn] at d3
  unfold triV
  clear hy hv hto hyn HE w0 w1 hx hvx hto2 htn w02 w12 hw
  go_enter Try.func57, Try.ntmps57
  go_upto_region 4 with fail
  have Z0 : Blk ((((w.alloc (.cells #[p1, p2, p3, p4] 89)).alloc (.cells #[.int .i64 t.a, .int .i64 t.b, .int .i64 t.f] 83)).alloc (.cells #[.int .i64 0, .int .i64 0, .int .i64 0, .int .i64 0, .int .i64 0, .int .i64 0] 92)).alloc (.cells #[.int .i64 0, .int .i64 0, .int .i64 0, .int .i64 t.a, .int .i64 t.b, .int .i64 0] 92)) (w.heap.size + 1 + 1) _ _ := (Blk.new' (by simp)).alloc _
  have Z1 : Blk ((((w.alloc (.cells #[p1, p2, p3, p4] 89)).alloc (.cells #[.int .i64 t.a, .int .i64 t.b, .int .i64 t.f] 83)).alloc (.cells #[.int .i64 0, .int .i64 0, .int .i64 0, .int .i64 0, .int .i64 0, .int .i64 0] 92)).alloc (.cells #[.int .i64 0, .int .i64 0, .int .i64 0, .int .i64 t.a, .int .i64 t.b, .int .i64 0] 92)) (w.heap.size + 1 + 1 + 1) _ _ := Blk.new' (by simp)
  have bel : Below w.heap.size w ((((w.alloc (.cells #[p1, p2, p3, p4] 89)).alloc (.cells #[.int .i64 t.a, .int .i64 t.b, .int .i64 t.f] 83)).alloc (.cells #[.int .i64 0, .int .i64 0, .int .i64 0, .int .i64 0, .int .i64 0, .int .i64 0] 92)).alloc (.cells #[.int .i64 0, .int .i64 0, .int .i64 0, .int .i64 t.a, .int .i64 t.b, .int .i64 0] 92)) := (by repeat' (first | exact Below.refl _ _ | assumption | refine Below.drew ?_ | refine Below.alloc ?_ (by first | omega | (simp; done) | (simp; omega)) _ | refine Below.setCell ?_ (by first | omega | (simp; done) | (simp; omega)) _))
  have c0' := cell_keep bel (Nat.le_refl _) c0
  have c1' := cell_keep bel (Nat.le_refl _) c1
  have c2' := cell_keep bel (Nat.le_refl _) c2
  have c3' := cell_keep bel (Nat.le_refl _) c3
  have d0' := cell_keep bel (Nat.le_refl _) d0
  have d1' := cell_keep bel (Nat.le_refl _) d1
  have d2' := cell_keep bel (Nat.le_refl _) d2
  have d3' := cell_keep bel (Nat.le_refl _) d3
  generalize (((w.alloc (.cells #[p1, p2, p3, p4] 89)).alloc (.cells #[.int .i64 t.a, .int .i64 t.b, .int .i64 t.f] 83)).alloc (.cells #[.int .i64 0, .int .i64 0, .int .i64 0, .int .i64 0, .int .i64 0, .int .i64 0] 92)).alloc (.cells #[.int .i64 0, .int .i64 0, .int .i64 0, .int .i64 t.a, .int .i64 t.b, .int .i64 0] 92) = W at *
  have g1 : w.heap.size ≤ w.heap.size + 1 + 1 := by omega
  have g2 : w.heap.size ≤ w.heap.size + 1 + 1 + 1 := by omega
  have g3 : w.heap.size + 1 + 1 ≠ w.heap.size + 1 + 1 + 1 := by omega
  generalize w.heap.size + 1 + 1 + 1 = h1 at *
  generalize w.heap.size + 1 + 1 = h0 at *
  have k0 := Z0.cell; have k1 := Z1.cell; have e0 := Z0.froz; have e1 := Z1.froz; have l0 := Z0.lt; have l1 := Z1.lt
  have lb := Nat.lt_of_lt_of_le lx bel.size
  have lb2 := Nat.lt_of_lt_of_le ly bel.size
  clear c0 c1 c2 c3 d0 d1 d2 d3
  go_region
  have Z9 : Blk ((W.setCell ⟨h1, 0, none⟩ (.int .i64 x.inn)).setCell ⟨h1, 3, none⟩ (.int .i64 tn)).drew h1 #[.int .i64 x.inn, .int .i64 0, .int .i64 0, .int .i64 tn, .int .i64 t.b, .int .i64 0] 92 := ((Z1.put 0 _).put 3 _).drew.eq (by simp)
  have Y9 := (((Z0.far (a := ⟨h1, 0, none⟩) g3 (.int .i64 x.inn)).far (a := ⟨h1, 3, none⟩) g3 (.int .i64 tn)).drew)
  have bel9 : Below w.heap.size w ((W.setCell ⟨h1, 0, none⟩ (.int .i64 x.inn)).setCell ⟨h1, 3, none⟩ (.int .i64 tn)).drew := ((bel.setCell g2 _).setCell g2 _).drew
  have f1 : (((W.setCell ⟨h1, 0, none⟩ (.int .i64 x.inn)).setCell ⟨h1, 3, none⟩ (.int .i64 tn)).drew).cell? ⟨b2, o2 + 1, none⟩ = some (.int .i64 y.out) := cell_far _ (cell_far _ d1' (by intro e; simp at e <;> omega)) (by intro e; simp at e <;> omega)
  have f2 : (((W.setCell ⟨h1, 0, none⟩ (.int .i64 x.inn)).setCell ⟨h1, 3, none⟩ (.int .i64 tn)).drew).cell? ⟨b2, o2 + 2, none⟩ = some (.int .i64 y.wt) := cell_far _ (cell_far _ d2' (by intro e; simp at e <;> omega)) (by intro e; simp at e <;> omega)
  have f3 : (((W.setCell ⟨h1, 0, none⟩ (.int .i64 x.inn)).setCell ⟨h1, 3, none⟩ (.int .i64 tn)).drew).cell? ⟨b2, o2 + 3, none⟩ = some (.int .i64 yn) := cell_far _ (cell_far _ d3' (by intro e; simp at e <;> omega)) (by intro e; simp at e <;> omega)
  have lw : b2 < (((W.setCell ⟨h1, 0, none⟩ (.int .i64 x.inn)).setCell ⟨h1, 3, none⟩ (.int .i64 tn)).drew).heap.size := by simpa [World.setCell, World.drew] using lb2
  clear k0 k1 e0 e1 l0 l1 lb lb2 c0' c1' c2' c3' d0' d1' d2' d3' Z0 Z1 bel
  generalize ((W.setCell ⟨h1, 0, none⟩ (.int .i64 x.inn)).setCell ⟨h1, 3, none⟩ (.int .i64 tn)).drew = Wa at *
  have k0 := Y9.cell; have k1 := Z9.cell; have e0 := Y9.froz; have e1 := Z9.froz; have l0 := Y9.lt; have l1 := Z9.lt
  go_upto_region 6 with fail
  go_region
  have Z2 : Blk ((Wa.setCell ⟨h1, 1, none⟩ (.int .i64 y.out)).setCell ⟨h1, 4, none⟩ (.int .i64 yn)).drew h1 #[.int .i64 x.inn, .int .i64 y.out, .int .i64 0, .int .i64 tn, .int .i64 yn, .int .i64 0] 92 := ((Z9.put 1 _).put 4 _).drew.eq (by simp)
  have Y2 := (((Y9.far (a := ⟨h1, 1, none⟩) g3 (.int .i64 y.out)).far (a := ⟨h1, 4, none⟩) g3 (.int .i64 yn)).drew)
  have bel2 : Below w.heap.size w ((Wa.setCell ⟨h1, 1, none⟩ (.int .i64 y.out)).setCell ⟨h1, 4, none⟩ (.int .i64 yn)).drew := ((bel9.setCell g2 _).setCell g2 _).drew
  have cw : (((Wa.setCell ⟨h1, 1, none⟩ (.int .i64 y.out)).setCell ⟨h1, 4, none⟩ (.int .i64 yn)).drew).cell? ⟨b2, o2 + 2, none⟩ = some (.int .i64 y.wt) := cell_far _ (cell_far _ f2 (by intro e; simp at e <;> omega)) (by intro e; simp at e <;> omega)
  have lw2 : b2 < (((Wa.setCell ⟨h1, 1, none⟩ (.int .i64 y.out)).setCell ⟨h1, 4, none⟩ (.int .i64 yn)).drew).heap.size := by simpa [World.setCell, World.drew] using lw
  clear k0 k1 e0 e1 l0 l1 lw f1 f2 f3 Z9 Y9 bel9
  generalize ((Wa.setCell ⟨h1, 1, none⟩ (.int .i64 y.out)).setCell ⟨h1, 4, none⟩ (.int .i64 yn)).drew = W2 at *
  have k0 := Y2.cell; have k1 := Z2.cell; have e0 := Y2.froz; have e1 := Z2.froz; have l0 := Y2.lt; have l1 := Z2.lt
  go_wp2_with fail
  refine (TM.out _).mono ?_; rintro e w' ⟨rfl, rfl⟩
  go_upto_region 12 with fail
  have Z3 := (Z2.put 2 (.int .i64 (x.wt + y.wt))).eq (show _ = #[.int .i64 x.inn, .int .i64 y.out, .int .i64 (x.wt + y.wt), .int .i64 tn, .int .i64 yn, .int .i64 0] by simp)
  have Y3 := Y2.far (a := ⟨h1, 2, none⟩) g3 (.int .i64 (x.wt + y.wt))
  have bel3 : Below w.heap.size w (W2.setCell ⟨h1, 2, none⟩ (.int .i64 (x.wt + y.wt))) := bel2.setCell g2 _
  clear k0 k1 e0 e1 l0 l1 Z2 Y2 bel2
  generalize W2.setCell ⟨h1, 2, none⟩ (.int .i64 (x.wt + y.wt)) = W3 at *
  have k0 := Y3.cell; have k1 := Z3.cell; have e0 := Y3.froz; have e1 := Z3.froz; have l0 := Y3.lt; have l1 := Z3.lt
  go_wp2_with fail
  have Z4 := ((((((Y3.put 0 (.int .i64 x.inn)).put 1 (.int .i64 y.out)).put 2 (.int .i64 (x.wt + y.wt))).put 3 (.int .i64 tn)).put 4 (.int .i64 yn)).put 5 (.int .i64 0)).eq (show _ = #[.int .i64 x.inn, .int .i64 y.out, .int .i64 (x.wt + y.wt), .int .i64 tn, .int .i64 yn, .int .i64 0] by simp)
  have bel4 : Below w.heap.size w ((((((W3.setCell ⟨h0, 0, none⟩ (.int .i64 x.inn)).setCell ⟨h0, 1, none⟩ (.int .i64 y.out)).setCell ⟨h0, 2, none⟩ (.int .i64 (x.wt + y.wt))).setCell ⟨h0, 3, none⟩ (.int .i64 tn)).setCell ⟨h0, 4, none⟩ (.int .i64 yn)).setCell ⟨h0, 5, none⟩ (.int .i64 0)) := (((((bel3.setCell g1 _).setCell g1 _).setCell g1 _).setCell g1 _).setCell g1 _).setCell g1 _
  clear k0 k1 e0 e1 l0 l1 Z3 Y3 bel3
  generalize ((((((W3.setCell ⟨h0, 0, none⟩ (.int .i64 x.inn)).setCell ⟨h0, 1, none⟩ (.int .i64 y.out)).setCell ⟨h0, 2, none⟩ (.int .i64 (x.wt + y.wt))).setCell ⟨h0, 3, none⟩ (.int .i64 tn)).setCell ⟨h0, 4, none⟩ (.int .i64 yn)).setCell ⟨h0, 5, none⟩ (.int .i64 0)) = W4 at *
  have k0 := Z4.cell; have l0 := Z4.lt
  refine bodyPost_ret (v := .tuple #[.agg #[.int .i64 x.inn, .int .i64 y.out, .int .i64 (x.wt + y.wt), .int .i64 tn, .int .i64 yn, .int .i64 0], .int .i64 0]) (by simp [results, Try.results57, go_sem, *]) rfl ⟨rfl, bel4⟩
end Go.Proofs.Ytikkmoleneioeaa
