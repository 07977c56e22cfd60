/- weigh.queue: its methods. -/
/- weigh.queue is a heap. -/
import Derived.Test.YtkmnacchiagipaaDoorHeap2
import Derived.OpenShut
import Derived.RegionTactic
import Derived.Test.YtkmnacchiagipaaDoorRegionLast
import Derived.Deep.RegionHeld3
import Derived.Deep.DeepCutAuto
import Derived.Deep.CutBlock
import Derived.Test.YtkmnacchiagipaaDoorBuild
namespace Go.Proofs.YtkmnacchiagipaaDoor
open Go.RowKit

structure ItemL where
  st : Nat
  rd : Nat
  wr : Nat
  cost : Int
def itemCells (x : ItemL) : List Value := [.int .i64 x.st, .int .i64 x.rd, .int .i64 x.wr, .int .i64 x.cost]
abbrev itemV (x : ItemL) : Value := .agg #[.int .i64 x.st, .int .i64 x.rd, .int .i64 x.wr, .int .i64 x.cost]
def itemI (x : ItemL) : Value := .iface 232 (itemV x)
theorem eltItem : Elt Tryd.prog 234 232 (.agg #[.int .i64 0, .int .i64 0, .int .i64 0, .int .i64 0]) 4 32 := ⟨Tryd.underlying234, by kernel_rfl, rfl, by omega⟩
abbrev WQ (base b : Nat) (W0 : World) (R0 : Option Nat) (W : World) (l : List ItemL) : Prop := QSt itemCells 4 234 232 base b W0 R0 W l
theorem items_at (l : List ItemL) (i : Nat) (hi : i < l.length) (j : Nat) (hj : j < 4) : (l.flatMap itemCells)[i * 4 + j]? = (itemCells l[i])[j]? := flatMap_at itemCells 4 (fun _ => rfl) l i hi j hj

theorem flatMap_set {α : Type} (f : α → List Value) (m : Nat) (hf : ∀ a, (f a).length = m) (x : α) (l : List α) : ∀ (i : Nat) (_ : i < l.length) (k : Nat), ((l.set i x).flatMap f)[k]? = if i * m ≤ k ∧ k < i * m + m then (f x)[k - i * m]? else (l.flatMap f)[k]? := by
  induction l with
  | nil => intro i hi; simp at hi
  | cons a l ih =>
    intro i hi k
    cases i with
    | zero =>
      simp only [List.set_cons_zero, List.flatMap_cons, Nat.zero_mul, Nat.zero_le, Nat.zero_add, true_and, Nat.sub_zero]
      split
      · rw [List.getElem?_append_left (by rw [hf]; assumption)]
      · rw [List.getElem?_append_right (by rw [hf]; omega), List.getElem?_append_right (by rw [hf]; omega), hf, hf]
    | succ i =>
      simp only [List.set_cons_succ, List.flatMap_cons]
      have e : (i + 1) * m = m + i * m := by rw [Nat.succ_mul, Nat.add_comm]
      by_cases h1 : k < m
      · rw [List.getElem?_append_left (by rw [hf]; exact h1), List.getElem?_append_left (by rw [hf]; exact h1), if_neg (by omega)]
      · rw [List.getElem?_append_right (by rw [hf]; omega), List.getElem?_append_right (by rw [hf]; omega), hf, ih i (by simpa using hi)]
        by_cases h2 : i * m ≤ k - m ∧ k - m < i * m + m
        · rw [if_pos h2, if_pos (by omega)]; congr 1; omega
        · rw [if_neg h2, if_neg (by omega)]
theorem items_len (l : List ItemL) : (l.flatMap itemCells).length = l.length * 4 := by
  induction l with
  | nil => rfl
  | cons a l ih => simp only [List.flatMap_cons, List.length_append, ih, List.length_cons, itemCells]; simp; omega
@[go_sem] theorem as_item (v : Value) (w : World) : (Instr.typeAssert (.iface 232 v) 20 232 false).run Tryd.prog w = .ok v w := by kernel_rfl
theorem items_set (x : ItemL) (l : List ItemL) (i : Nat) (hi : i < l.length) : ((((l.flatMap itemCells).set (i * 4) (.int .i64 x.st)).set (i * 4 + 1) (.int .i64 x.rd)).set (i * 4 + 2) (.int .i64 x.wr)).set (i * 4 + 3) (.int .i64 x.cost) = (l.set i x).flatMap itemCells := by
  apply List.ext_getElem?
  intro k
  rw [flatMap_set itemCells 4 (fun _ => rfl) x l i hi k]
  have hll := items_len l
  simp only [List.getElem?_set, List.length_set, hll]
  by_cases h : i * 4 ≤ k ∧ k < i * 4 + 4
  · rw [if_pos h]
    obtain ⟨d, rfl⟩ : ∃ d, k = i * 4 + d := ⟨k - i * 4, by omega⟩
    rw [show i * 4 + d - i * 4 = d by omega]
    have hd : d = 0 ∨ d = 1 ∨ d = 2 ∨ d = 3 := by omega
    rcases hd with rfl | rfl | rfl | rfl
    all_goals simp [itemCells]; try omega
  · rw [if_neg h, if_neg (by omega), if_neg (by omega), if_neg (by omega), if_neg (by omega)]
/-- four stores into a row -/
theorem stored4 {w : World} {base : Nat} {e : TypeId} {size g n c : Nat} {xs : List Value} (h : w.ownsRow base e size (.slice (some ⟨g, 0, none⟩) n c) n xs) (o : Nat) (a b d f : Value) :
    ((((w.setCell ⟨g, o, none⟩ a).setCell ⟨g, o + 1, none⟩ b).setCell ⟨g, o + 2, none⟩ d).setCell ⟨g, o + 3, none⟩ f).ownsRow base e size (.slice (some ⟨g, 0, none⟩) n c) n ((((xs.set o a).set (o + 1) b).set (o + 2) d).set (o + 3) f) ∧ w.grownBy ((((w.setCell ⟨g, o, none⟩ a).setCell ⟨g, o + 1, none⟩ b).setCell ⟨g, o + 2, none⟩ d).setCell ⟨g, o + 3, none⟩ f) (some g) := by
  obtain ⟨h1, g1⟩ := h.stored o a
  obtain ⟨h2, g2⟩ := h1.stored (o + 1) b
  obtain ⟨h3, g3⟩ := h2.stored (o + 2) d
  obtain ⟨h4, g4⟩ := h3.stored (o + 3) f
  exact ⟨h4, grown_then (grown_then (grown_then g1 g2) g3) g4⟩

set_option maxRecDepth 100000
set_option maxHeartbeats 4000000
theorem wq_len (A : Option Addr) (n c : Nat) (W : World) : Calls Tryd.prog 233 #[.slice A n c] W fun e w' => e = .returned (.int .i64 n) ∧ W = w' := by
  go_enter Tryd.func233, Tryd.ntmps233
  go_wp2
  exact bodyPost_ret (v := .int .i64 n) (by simp [results, Tryd.results233, go_sem]) rfl ⟨rfl, rfl⟩
theorem wq_less (base b : Nat) (W0 W : World) (R0 : Option Nat) (l : List ItemL) (hS : WQ base b W0 R0 W l) (g c : Nat) (hO : W.ownsRow base 232 4 (.slice (some ⟨g, 0, none⟩) l.length c) l.length (l.flatMap itemCells)) (i j : Nat) (hi : i < l.length) (hj : j < l.length) :
    Calls Tryd.prog 234 #[.slice (some ⟨g, 0, none⟩) l.length c, .int .i64 i, .int .i64 j] W fun e w' => e = .returned (.bool (decide (l[i].cost < l[j].cost))) ∧ WQ base b W0 R0 w' l := by
  have c1 := hO.cellAt (i * 4 + 3) (by omega)
  have c2 := hO.cellAt (j * 4 + 3) (by omega)
  rw [items_at l i hi 3 (by omega)] at c1
  rw [items_at l j hj 3 (by omega)] at c2
  simp only [itemCells] at c1 c2
  have HS := Lib.hid hS
  clear hS hO
  have i0 : (0 : Int) ≤ ↑i := by omega
  have j0 : (0 : Int) ≤ ↑j := by omega
  have i1 : (↑i : Int) < ↑l.length := by omega
  have j1 : (↑j : Int) < ↑l.length := by omega
  generalize l[i] = x at *
  generalize l[j] = y at *
  go_enter Tryd.func234, Tryd.ntmps234
  go_wp2_with fail
  go_region
  all_goals
    go_wp2_with fail
    exact bodyPost_ret (v := .bool (decide (x.cost < y.cost))) (by simp [results, Tryd.results234, go_sem]) rfl ⟨rfl, HS.out.keep (Below.refl _ _).drew⟩
theorem wq_swap (base b : Nat) (W0 W : World) (R0 : Option Nat) (l : List ItemL) (hS : WQ base b W0 R0 W l) (g c : Nat) (hB : Blk W b #[.slice (some ⟨g, 0, none⟩) l.length c] 234) (hO : W.ownsRow base 232 4 (.slice (some ⟨g, 0, none⟩) l.length c) l.length (l.flatMap itemCells)) (hg : g < W.heap.size) (i j : Nat) (hi : i < l.length) (hj : j < l.length) :
    Calls Tryd.prog 235 #[.slice (some ⟨g, 0, none⟩) l.length c, .int .i64 i, .int .i64 j] W fun e w' => e = .returned (.tuple #[]) ∧ WQ base b W0 R0 w' (swapL l i j) := by
  have c1 := fun k (hk : k < 4) => (hO.cellAt (i * 4 + k) (by omega)).trans (items_at l i hi k hk)
  have c2 := fun k (hk : k < 4) => (hO.cellAt (j * 4 + k) (by omega)).trans (items_at l j hj k hk)
  have f := hO.frozenAt
  have c10 := c1 0 (by omega); have c11 := c1 1 (by omega); have c12 := c1 2 (by omega); have c13 := c1 3 (by omega)
  have c20 := c2 0 (by omega); have c21 := c2 1 (by omega); have c22 := c2 2 (by omega); have c23 := c2 3 (by omega)
  simp only [itemCells, Nat.add_zero] at c10 c11 c12 c13 c20 c21 c22 c23
  have HS := Lib.hid hS; have HO := Lib.hid hO; have HB := Lib.hid hB
  clear hS hO hB c1 c2
  have i0 : (0 : Int) ≤ ↑i := by omega
  have j0 : (0 : Int) ≤ ↑j := by omega
  have i1 : (↑i : Int) < ↑l.length := by omega
  have j1 : (↑j : Int) < ↑l.length := by omega
  generalize hx : l[i] = x at *
  generalize hy : l[j] = y at *
  have HX := Lib.hid hx; have HY := Lib.hid hy
  clear hx hy
  go_enter Tryd.func235, Tryd.ntmps235
  go_wp2_with fail
  go_region
  · have Z1 : Blk ((W.alloc (.cells #[.int .i64 x.st, .int .i64 x.rd, .int .i64 x.wr, .int .i64 x.cost] 232)).alloc (.cells #[.int .i64 y.st, .int .i64 y.rd, .int .i64 y.wr, .int .i64 y.cost] 232)).drew W.heap.size _ _ := ((Blk.new _ _ _).alloc _).drew
    have Z2 : Blk ((W.alloc (.cells #[.int .i64 x.st, .int .i64 x.rd, .int .i64 x.wr, .int .i64 x.cost] 232)).alloc (.cells #[.int .i64 y.st, .int .i64 y.rd, .int .i64 y.wr, .int .i64 y.cost] 232)).drew (W.heap.size + 1) _ _ := (Blk.new' (by simp)).drew
    have bel : Below W.heap.size W ((W.alloc (.cells #[.int .i64 x.st, .int .i64 x.rd, .int .i64 x.wr, .int .i64 x.cost] 232)).alloc (.cells #[.int .i64 y.st, .int .i64 y.rd, .int .i64 y.wr, .int .i64 y.cost] 232)).drew := ((by repeat' (first | exact Below.refl _ _ | assumption | refine Below.drew ?_ | refine Below.alloc ?_ (by first | omega | (simp; done) | (simp; omega)) _ | refine Below.setCell ?_ (by first | omega | (simp; done) | (simp; omega)) _)) : Below W.heap.size W ((W.alloc (.cells #[.int .i64 x.st, .int .i64 x.rd, .int .i64 x.wr, .int .i64 x.cost] 232)).alloc (.cells #[.int .i64 y.st, .int .i64 y.rd, .int .i64 y.wr, .int .i64 y.cost] 232))).drew
    have S2 := Lib.hid (HS.out.keep bel); have O2 := Lib.hid (own_below HO.out bel (Nat.le_refl _)); have B2 := Lib.hid (HB.out.step bel)
    generalize ((W.alloc (.cells #[.int .i64 x.st, .int .i64 x.rd, .int .i64 x.wr, .int .i64 x.cost] 232)).alloc (.cells #[.int .i64 y.st, .int .i64 y.rd, .int .i64 y.wr, .int .i64 y.cost] 232)).drew = W2 at *
    have hg2 : g < W.heap.size + 1 := by omega
    have hg3 : W.heap.size < W2.heap.size := Z1.lt
    have hg4 : W.heap.size + 1 < W2.heap.size := Z2.lt
    have l2 := Z2.cell
    clear c10 c11 c12 c13 c20 c21 c22 c23 f
    have CC := fun k (hk : k < 4) => (O2.out.cellAt (i * 4 + k) (by omega)).trans (items_at l i hi k hk)
    have CD := fun k (hk : k < 4) => (O2.out.cellAt (j * 4 + k) (by omega)).trans (items_at l j hj k hk)
    have f := O2.out.frozenAt
    have c10 := CC 0 (by omega); have c11 := CC 1 (by omega); have c12 := CC 2 (by omega); have c13 := CC 3 (by omega)
    simp only [itemCells, Nat.add_zero, HX.out] at c10 c11 c12 c13
    clear CC CD
    go_upto_region 2 with fail
    obtain ⟨o1, g1⟩ := stored4 O2.out (i * 4) (.int .i64 y.st) (.int .i64 y.rd) (.int .i64 y.wr) (.int .i64 y.cost)
    rw [items_set y l i hi] at o1
    have z1 := Z1.grown g1 (by simp; omega)
    generalize (((W2.setCell ⟨g, i * 4, none⟩ (.int .i64 y.st)).setCell ⟨g, i * 4 + 1, none⟩ (.int .i64 y.rd)).setCell ⟨g, i * 4 + 2, none⟩ (.int .i64 y.wr)).setCell ⟨g, i * 4 + 3, none⟩ (.int .i64 y.cost) = W3 at *
    have hj2 : j < (l.set i y).length := by simpa using hj
    have CD := fun k (hk : k < 4) => (o1.cellAt (j * 4 + k) (by omega)).trans (items_at (l.set i y) j hj2 k hk)
    clear f
    have f := o1.frozenAt
    clear c10 c11 c12 c13 l2
    have c20 := CD 0 (by omega); have c21 := CD 1 (by omega); have c22 := CD 2 (by omega); have c23 := CD 3 (by omega)
    simp only [itemCells, Nat.add_zero] at c20 c21 c22 c23
    have l1 := z1.cell
    have hg5 : W.heap.size < W3.heap.size := z1.lt
    have O3 := Lib.hid o1; have G1 := Lib.hid g1
    clear o1 g1 CD
    go_wp2_with fail
    obtain ⟨o2, g2⟩ := stored4 O3.out (j * 4) (.int .i64 x.st) (.int .i64 x.rd) (.int .i64 x.wr) (.int .i64 x.cost)
    rw [items_set x _ j hj2] at o2
    refine bodyPost_end (v := .tuple #[]) ?_ ?_ ?_
    · exact results_none rfl _ _ _
    · rfl
    refine ⟨rfl, QSt.cells S2.out B2.out (grown_then G1.out g2) (swapL_len l i j).symm ?_⟩
    rw [swapL_eq l i j hi hj, HX.out, HY.out]
    exact o2
  · have Z1 : Blk ((W.alloc (.cells #[.int .i64 y.st, .int .i64 y.rd, .int .i64 y.wr, .int .i64 y.cost] 232)).alloc (.cells #[.int .i64 x.st, .int .i64 x.rd, .int .i64 x.wr, .int .i64 x.cost] 232)).drew (W.heap.size + 1) _ _ := (Blk.new' (by simp)).drew
    have Z2 : Blk ((W.alloc (.cells #[.int .i64 y.st, .int .i64 y.rd, .int .i64 y.wr, .int .i64 y.cost] 232)).alloc (.cells #[.int .i64 x.st, .int .i64 x.rd, .int .i64 x.wr, .int .i64 x.cost] 232)).drew W.heap.size _ _ := ((Blk.new _ _ _).alloc _).drew
    have bel : Below W.heap.size W ((W.alloc (.cells #[.int .i64 y.st, .int .i64 y.rd, .int .i64 y.wr, .int .i64 y.cost] 232)).alloc (.cells #[.int .i64 x.st, .int .i64 x.rd, .int .i64 x.wr, .int .i64 x.cost] 232)).drew := ((by repeat' (first | exact Below.refl _ _ | assumption | refine Below.drew ?_ | refine Below.alloc ?_ (by first | omega | (simp; done) | (simp; omega)) _ | refine Below.setCell ?_ (by first | omega | (simp; done) | (simp; omega)) _)) : Below W.heap.size W ((W.alloc (.cells #[.int .i64 y.st, .int .i64 y.rd, .int .i64 y.wr, .int .i64 y.cost] 232)).alloc (.cells #[.int .i64 x.st, .int .i64 x.rd, .int .i64 x.wr, .int .i64 x.cost] 232))).drew
    have S2 := Lib.hid (HS.out.keep bel); have O2 := Lib.hid (own_below HO.out bel (Nat.le_refl _)); have B2 := Lib.hid (HB.out.step bel)
    generalize ((W.alloc (.cells #[.int .i64 y.st, .int .i64 y.rd, .int .i64 y.wr, .int .i64 y.cost] 232)).alloc (.cells #[.int .i64 x.st, .int .i64 x.rd, .int .i64 x.wr, .int .i64 x.cost] 232)).drew = W2 at *
    have hg2 : g < W.heap.size + 1 := by omega
    have hg3 : W.heap.size < W2.heap.size := Z2.lt
    have hg4 : W.heap.size + 1 < W2.heap.size := Z1.lt
    have l2 := Z2.cell
    clear c10 c11 c12 c13 c20 c21 c22 c23 f
    have CC := fun k (hk : k < 4) => (O2.out.cellAt (i * 4 + k) (by omega)).trans (items_at l i hi k hk)
    have CD := fun k (hk : k < 4) => (O2.out.cellAt (j * 4 + k) (by omega)).trans (items_at l j hj k hk)
    have f := O2.out.frozenAt
    have c10 := CC 0 (by omega); have c11 := CC 1 (by omega); have c12 := CC 2 (by omega); have c13 := CC 3 (by omega)
    simp only [itemCells, Nat.add_zero, HX.out] at c10 c11 c12 c13
    clear CC CD
    go_upto_region 2 with fail
    obtain ⟨o1, g1⟩ := stored4 O2.out (i * 4) (.int .i64 y.st) (.int .i64 y.rd) (.int .i64 y.wr) (.int .i64 y.cost)
    rw [items_set y l i hi] at o1
    have z1 := Z1.grown g1 (by simp; omega)
    generalize (((W2.setCell ⟨g, i * 4, none⟩ (.int .i64 y.st)).setCell ⟨g, i * 4 + 1, none⟩ (.int .i64 y.rd)).setCell ⟨g, i * 4 + 2, none⟩ (.int .i64 y.wr)).setCell ⟨g, i * 4 + 3, none⟩ (.int .i64 y.cost) = W3 at *
    have hj2 : j < (l.set i y).length := by simpa using hj
    have CD := fun k (hk : k < 4) => (o1.cellAt (j * 4 + k) (by omega)).trans (items_at (l.set i y) j hj2 k hk)
    clear f
    have f := o1.frozenAt
    clear c10 c11 c12 c13 l2
    have c20 := CD 0 (by omega); have c21 := CD 1 (by omega); have c22 := CD 2 (by omega); have c23 := CD 3 (by omega)
    simp only [itemCells, Nat.add_zero] at c20 c21 c22 c23
    have l1 := z1.cell
    have hg5 : W.heap.size + 1 < W3.heap.size := z1.lt
    have O3 := Lib.hid o1; have G1 := Lib.hid g1
    clear o1 g1 CD
    go_wp2_with fail
    obtain ⟨o2, g2⟩ := stored4 O3.out (j * 4) (.int .i64 x.st) (.int .i64 x.rd) (.int .i64 x.wr) (.int .i64 x.cost)
    rw [items_set x _ j hj2] at o2
    refine bodyPost_end (v := .tuple #[]) ?_ ?_ ?_
    · exact results_none rfl _ _ _
    · rfl
    refine ⟨rfl, QSt.cells S2.out B2.out (grown_then G1.out g2) (swapL_len l i j).symm ?_⟩
    rw [swapL_eq l i j hi hj, HX.out, HY.out]
    exact o2
theorem wq_pop (base b : Nat) (W0 W : World) (R0 : Option Nat) (l : List ItemL) (x : ItemL) (hS : WQ base b W0 R0 W (l ++ [x])) (hl : l.length + 1 ≤ 1000000) :
    Calls Tryd.prog 236 #[.pointer (some ⟨b, 0, none⟩)] W fun e w' => e = .returned (itemI x) ∧ WQ base b W0 R0 w' l := by
  obtain ⟨g, c, hB, hO, hg, hbg, hc1, hc2⟩ := hS.addr (by simp)
  have HS := Lib.hid hS; have HB := Lib.hid hB
  have CC := fun k (hk : k < 4) => (hO.cellAt (l.length * 4 + k) (by simp; omega)).trans (items_at (l ++ [x]) l.length (by simp) k hk)
  have c10 := CC 0 (by omega); have c11 := CC 1 (by omega); have c12 := CC 2 (by omega); have c13 := CC 3 (by omega)
  have e1 : (l ++ [x])[l.length]'(by simp) = x := by simp
  simp only [itemCells, Nat.add_zero, e1] at c10 c11 c12 c13
  have kb := hB.cell; have fb := hB.froz; have lb := hB.lt
  have hll : (l ++ [x]).length = l.length + 1 := by simp
  rw [hll] at kb hO hc1
  have HO := Lib.hid hO
  have HLL := Lib.hid hll
  clear hS hO hB CC e1 hll
  generalize hn : l.length = n at *
  have HN := Lib.hid hn; clear hn
  simp only [maxLen] at hc2
  go_enter Tryd.func236, Tryd.ntmps236
  go_wp2_with fail
  have O2 : W.ownsRow base 232 4 (.slice (some ⟨g, 0, none⟩) n c) n (l.flatMap itemCells) := by
    refine ownsRow_pop (xs := l.flatMap itemCells) (last := itemCells x) ?_ ?_
    · rw [items_len, HN.out]
    · have := HO.out
      simpa using this
  have Q2 : WQ base b W0 R0 (W.setCell ⟨b, 0, none⟩ (.slice (some ⟨g, 0, none⟩) n c)) l := by
    have hB := HB.out
    exact QSt.row HS.out hB (World.grownBy.refl W _) HN.out.symm O2 (fun k hk => .inl (by simpa [Value.ownBlock] using hk))
  exact bodyPost_ret (v := itemI x) (by simp [results, Tryd.results236, go_sem, itemI]) rfl ⟨rfl, Q2.keep (by repeat' (first | exact Below.refl _ _ | assumption | refine Below.drew ?_ | refine Below.alloc ?_ (by first | omega | (simp; done) | (simp; omega)) _ | refine Below.setCell ?_ (by first | omega | (simp; done) | (simp; omega)) _))⟩
theorem wq_push (base b : Nat) (W0 W : World) (R0 : Option Nat) (l : List ItemL) (x : ItemL) (hS : WQ base b W0 R0 W l) (hl : l.length + 1 ≤ 1000000) :
    Calls Tryd.prog 237 #[.pointer (some ⟨b, 0, none⟩), itemI x] W fun e w' => e = .returned (.tuple #[]) ∧ WQ base b W0 R0 w' (l ++ [x]) := by
  obtain ⟨A, c, hB, hO, -⟩ := hS.q
  have HS := Lib.hid hS; have HB := Lib.hid hB
  have kb := hB.cell; have fb := hB.froz; have lb := hB.lt
  have HO := Lib.hid hO
  clear hS hO hB
  generalize hn : l.length = n at *
  have HN := Lib.hid hn; clear hn
  unfold itemI
  have hbs := Nat.le_trans HS.out.hb HS.out.size
  have hne : some b ≠ (Value.slice A n c).ownBlock := (row_ne_blk HO.out HB.out HS.out.hne).symm
  go_enter Tryd.func237, Tryd.ntmps237
  refine wp_region_noPanic ?_
  refine wp_region_last_drew (fun w' => w'.cell? ⟨b, 0, none⟩ = some (.slice A n c)) (by kernel_rfl) (by simp only [List.back?_toArray, List.getLast?_cons_cons, List.getLast?_singleton]; rfl) (by simp only [List.pop_toArray, List.dropLast_cons_cons, List.dropLast_singleton]; rfl) (by kernel_rfl) (by simpa using kb 0) (fun hHeld => ?_)
  refine wpAnyH_take (i := 0) (v := ?v0) (by simp only [List.getElem?_toArray, List.getElem?_cons_zero]; rfl) (by kernel_rfl) (by kernel_rfl) (by kernel_rfl) (fun _ _ _ h => h) (Or.inl ⟨by rfl, ?h0⟩) hHeld ?r0
  case h0 => intro w hSw; (try dsimp only at hSw); go_simp; with_reducible rfl
  simp only [Act.put, List.setIfInBounds_toArray, List.set_cons_zero, List.set_cons_succ]
  refine wpAnyH_take (i := 1) (v := ?v1) (by simp only [List.getElem?_toArray, List.getElem?_cons_succ, List.getElem?_cons_zero]; rfl) (by kernel_rfl) (by kernel_rfl) (by kernel_rfl) (fun _ _ _ h => h) (Or.inl ⟨by rfl, ?h1⟩) hHeld ?r1
  case h1 => intro w hSw; (try dsimp only at hSw); go_simp; with_reducible rfl
  simp only [Act.put, List.setIfInBounds_toArray, List.set_cons_zero, List.set_cons_succ]
  refine wpAnyH_take (i := 2) (v := ?v2) (by simp only [List.getElem?_toArray, List.getElem?_cons_succ, List.getElem?_cons_zero]; rfl) (by kernel_rfl) (by kernel_rfl) (by kernel_rfl) (fun _ _ _ h => h) (Or.inl ⟨by rfl, ?h2⟩) hHeld ?r2
  case h2 => intro w hSw; (try dsimp only at hSw); go_simp; with_reducible rfl
  simp only [Act.put, List.setIfInBounds_toArray, List.set_cons_zero, List.set_cons_succ]
  refine wpAnyH_take (i := 3) (v := ?v3) (by simp only [List.getElem?_toArray, List.getElem?_cons_succ, List.getElem?_cons_zero]; rfl) (by kernel_rfl) (by kernel_rfl) (by kernel_rfl) (fun _ _ _ h => h) (Or.inl ⟨by rfl, ?h3⟩) hHeld ?r3
  case h3 => intro w hSw; (try dsimp only at hSw); go_simp; with_reducible rfl
  simp only [Act.put, List.setIfInBounds_toArray, List.set_cons_zero, List.set_cons_succ]
  refine wpAnyH_take (i := 4) (v := ?v4) (by simp only [List.getElem?_toArray, List.getElem?_cons_succ, List.getElem?_cons_zero]; rfl) (by kernel_rfl) (by kernel_rfl) (by kernel_rfl) (fun _ _ _ h => h) (Or.inl ⟨by rfl, ?h4⟩) hHeld ?r4
  case h4 => intro w hSw; (try dsimp only at hSw); go_simp; with_reducible rfl
  simp only [Act.put, List.setIfInBounds_toArray, List.set_cons_zero, List.set_cons_succ]
  refine wpAnyH_take (i := 5) (v := ?v5) (by simp only [List.getElem?_toArray, List.getElem?_cons_succ, List.getElem?_cons_zero]; rfl) (by kernel_rfl) (by kernel_rfl) (by kernel_rfl) (fun _ _ _ h => h) (Or.inl ⟨by rfl, ?h5⟩) hHeld ?r5
  case h5 => intro w hSw; (try dsimp only at hSw); go_simp; with_reducible rfl
  simp only [Act.put, List.setIfInBounds_toArray, List.set_cons_zero, List.set_cons_succ]
  refine wpAnyH_ready (rs := [6]) (by kernel_rfl) (by simp) (AllReadyH.cons (by simp only [List.getElem?_toArray, List.getElem?_cons_succ, List.getElem?_cons_zero]; rfl) (fun K hK => ?s9) AllReadyH.nil)
  go_simp
  refine hK.out _ _ (cell_keep (w := W) (B := W.heap.size) (by repeat' (first | exact Below.refl _ _ | assumption | refine Below.drew ?_ | refine Below.alloc ?_ (by first | omega | (simp; done) | (simp; omega)) _ | refine Below.setCell ?_ (by first | omega | (simp; done) | (simp; omega)) _)) (Nat.le_refl _) (by simpa using kb 0)) (fun hHeld => ?_)
  clear hK K
  refine wpAnyH_ready (rs := [7]) (by kernel_rfl) (by simp) (AllReadyH.cons (by simp only [List.getElem?_toArray, List.getElem?_cons_succ, List.getElem?_cons_zero]; rfl) (fun K hK => ?s10) AllReadyH.nil)
  refine step_app1 (by rfl) _ _ (by rfl) eltItem base (.slice A n c) _ _ (by rfl) (HO.out.alloc _) W.heap.size #[.int .i64 x.st, .int .i64 x.rd, .int .i64 x.wr, .int .i64 x.cost] (heap_alloc_new W _) (by rfl) (by rfl) (by simp [Value.oneCell']) (by omega) (by omega) (by simp; omega) ?_; intro g3 cap w8 ho8 hg8 hat8 hlt8; have z1 := hg8.cell hHeld hne
  refine hK.out _ _ z1 (fun hHeld => ?_)
  clear hK K
  simp only [Act.put, List.setIfInBounds_toArray, List.set_cons_zero, List.set_cons_succ]
  refine wpAnyH_take (i := 8) (v := ?v8) (by simp only [List.getElem?_toArray, List.getElem?_cons_succ, List.getElem?_cons_zero]; rfl) (by kernel_rfl) (by kernel_rfl) (by kernel_rfl) (fun _ _ _ h => h) (Or.inl ⟨by rfl, ?h8⟩) hHeld ?r8
  case h8 => intro w hSw; (try dsimp only at hSw); go_simp; with_reducible rfl
  simp only [Act.put, List.setIfInBounds_toArray, List.set_cons_zero, List.set_cons_succ]
  refine wpAnyH_done (by kernel_rfl) ?_ _
  show Oper.wp _ _ _ _ _ _
  have hz1 : w8.frozen? ⟨b, 0, none⟩ = false := by
    rw [World.frozen?_of_block (hg8.block b (by simp; omega) hne)]
    exact ((HB.out.alloc _).drew).froz 0
  have lg8 := World.block_lt_of_cell? _ _ z1
  go_simp
  refine NoPanic.normal ?_
  have Q2 : WQ base b W0 R0 (w8.setCell ⟨b, 0, none⟩ (.slice (some ⟨g3, 0, none⟩) (n + 1) cap)) (l ++ [x]) := by
    have b7 : Below W.heap.size W (W.alloc (.cells #[.int .i64 x.st, .int .i64 x.rd, .int .i64 x.wr, .int .i64 x.cost] 232)).drew := (by repeat' (first | exact Below.refl _ _ | assumption | refine Below.drew ?_ | refine Below.alloc ?_ (by first | omega | (simp; done) | (simp; omega)) _ | refine Below.setCell ?_ (by first | omega | (simp; done) | (simp; omega)) _))
    have hn := HN.out
    subst hn
    refine QSt.row (HS.out.keep b7) (HB.out.step b7) hg8 (by simp) (by simpa [itemCells] using ho8) (fun k hk => ?_)
    simp only [Value.ownBlock, Option.some.injEq] at hk
    subst hk
    exact hat8.imp id (fun h => by omega)
  have HQ := Lib.hid Q2
  clear Q2 z1 hz1
  go_end0
  exact ⟨rfl, HQ.out⟩
end Go.Proofs.YtkmnacchiagipaaDoor

namespace Go.Proofs.YtkmnacchiagipaaDoor
open Go.RowKit
set_option maxRecDepth 100000
theorem enterF (f : FuncId) (h : ∀ (x : Array Value) (W : World), (callFunc f x).run Tryd.prog W = .ok (.enter f x) W) : ∀ (x : Array Value) (W : World), (callFunc f x).run Tryd.prog W = .ok (.enter f x) W := h
theorem wq_heap (base b : Nat) (W0 : World) (R0 : Option Nat) : HeapI 235 (.pointer (some ⟨b, 0, none⟩)) itemI (fun x y => decide (x.cost < y.cost)) (WQ base b W0 R0) := by
  have hld : ∀ (W : World) (A : Option Addr) (n c : Nat), Blk W b #[.slice A n c] 234 → (loadVar 234 ⟨b, 0, none⟩).run Tryd.prog W = .ok (.slice A n c) W := fun W A n c h => by
    have := h.cell 0
    simp [loadVar, go_sem, this]
  constructor
  · refine ⟨233, fun x W => by simp [go_sem], fun W l hS => ?_⟩
    obtain ⟨A, c, hB, hO, -⟩ := hS.q
    exact ⟨_, method_val (P := Tryd.prog) (by kernel_rfl) Tryd.underlying235 _ (hld _ _ _ _ hB), (wq_len A l.length c W).mono (by rintro e w' ⟨rfl, rfl⟩; exact ⟨rfl, hS⟩)⟩
  · refine ⟨234, fun x W => by simp [go_sem], fun W l hS i j x y hx hy hi hj => ?_⟩
    obtain ⟨g, c, hB, hO, -⟩ := hS.addr (by omega)
    subst hx; subst hy
    exact ⟨_, method_val (P := Tryd.prog) (by kernel_rfl) Tryd.underlying235 _ (hld _ _ _ _ hB), wq_less base b W0 W R0 l hS g c hO i j hi hj⟩
  · refine ⟨235, fun x W => by simp [go_sem], fun W l hS i j x y hx hy hi hj => ?_⟩
    obtain ⟨g, c, hB, hO, hg, -⟩ := hS.addr (by omega)
    subst hx; subst hy
    exact ⟨_, method_val (P := Tryd.prog) (by kernel_rfl) Tryd.underlying235 _ (hld _ _ _ _ hB), wq_swap base b W0 W R0 l hS g c hB hO hg i j hi hj⟩
  · refine ⟨237, fun x W => by simp [go_sem], fun W l hS hl x => ?_⟩
    exact ⟨_, method_ptr (P := Tryd.prog) (by kernel_rfl) Tryd.underlying235 _, wq_push base b W0 W R0 l x hS hl⟩
  · refine ⟨236, fun x W => by simp [go_sem], fun W l x hS hl => ?_⟩
    exact ⟨_, method_ptr (P := Tryd.prog) (by kernel_rfl) Tryd.underlying235 _, wq_pop base b W0 W R0 l x hS hl⟩

/-- the heap in box b, its row in block r -/
structure WHeap (base b : Nat) (r : Option Nat) (W : World) (l : List ItemL) : Prop where
  q : ∃ A c, Blk W b #[.slice A l.length c] 234 ∧ W.ownsRow base 232 4 (.slice A l.length c) l.length (l.flatMap itemCells) ∧ (Value.slice A l.length c).ownBlock = r
  heap : Heap ItemL.cost l l.length
  hb : base ≤ W.heap.size
/-- what a call on the heap in box b leaves as it was -/
structure WFar (b : Nat) (r : Option Nat) (W W' : World) : Prop where
  os : W'.os = W.os
  tape : W'.tape = W.tape
  output : W'.output = W.output
  size : W.heap.size ≤ W'.heap.size
  block : ∀ k, k < W.heap.size → k ≠ b → r ≠ some k → W'.heap[k]? = W.heap[k]?
theorem WFar.below {B b : Nat} {r : Option Nat} {W W' : World} (h : WFar b r W W') (hB : B ≤ b) (hr : ∀ k, r = some k → B ≤ k) (hs : B ≤ W.heap.size) : Below B W W' :=
  ⟨h.os, h.tape, h.output, h.size, fun k hk => h.block k (by omega) (by omega) (fun e => by have := hr k e; omega)⟩
theorem WFar.blk {b k : Nat} {r : Option Nat} {W W' : World} (h : WFar b r W W') {cs : Array Value} {t : TypeId} (hB : Blk W k cs t) (h1 : k ≠ b) (h2 : r ≠ some k) : Blk W' k cs t := hB.kept (h.block k hB.lt h1 h2)
section
variable {base b : Nat} {r : Option Nat} {W W' : World} {l : List ItemL}
theorem WHeap.keep (h : WHeap base b r W l) (hb : Below W.heap.size W W') : WHeap base b r W' l := by
  obtain ⟨A, c, h1, h2, h3⟩ := h.q
  exact ⟨⟨A, c, h1.step hb, own_below h2 hb (Nat.le_refl _), h3⟩, h.heap, Nat.le_trans h.hb hb.size⟩
theorem WHeap.row (h : WHeap base b r W l) : ∀ k, r = some k → base ≤ k ∧ k < W.heap.size := by
  obtain ⟨A, c, h1, h2, h3⟩ := h.q
  intro k hk
  exact h2.lt k (h3.trans hk)
theorem WHeap.far (h : WHeap base b r W l) {m : Option Nat} (hg : W.grownBy W' m) (h1 : m ≠ some b) (h2 : r = none ∨ r ≠ m) : WHeap base b r W' l := by
  obtain ⟨A, c, k1, k2, k3⟩ := h.q
  exact ⟨⟨A, c, k1.grown hg h1.symm, k2.kept hg (by rw [k3]; exact h2), k3⟩, h.heap, Nat.le_trans h.hb hg.size⟩
theorem WHeap.toQ (h : WHeap base b r W l) : WQ base b W r W l := by
  obtain ⟨A, c, k1, k2, rfl⟩ := h.q
  exact QSt.start k1 k2 (by decide) h.hb
theorem WHeap.ofQ {W0 : World} {r0 : Option Nat} (h : WQ base b W0 r0 W l) (hh : Heap ItemL.cost l l.length) : ∃ r, WHeap base b r W l ∧ WFar b r0 W0 W ∧ ∀ g, r = some g → r0 = some g ∨ W0.heap.size ≤ g := by
  obtain ⟨A, c, k1, k2, k3⟩ := h.q
  exact ⟨_, ⟨⟨A, c, k1, k2, rfl⟩, hh, Nat.le_trans h.hb h.size⟩, ⟨h.os, h.tape, h.output, h.size, h.block⟩, k3⟩
end
theorem costLt (x y : ItemL) : (fun x y : ItemL => decide (x.cost < y.cost)) x y = decide (x.cost < y.cost) := rfl
theorem wpush_any {base b : Nat} {r : Option Nat} {W : World} {l : List ItemL} (h : WHeap base b r W l) (hl : l.length + 1 ≤ 1000000) (x : ItemL) :
    Calls Tryd.prog 98 #[.iface 235 (.pointer (some ⟨b, 0, none⟩)), itemI x] W fun e w' => e = .returned (.tuple #[]) ∧ ∃ l' r', l'.Perm (l ++ [x]) ∧ WHeap base b r' w' l' ∧ WFar b r W w' ∧ ∀ g, r' = some g → r = some g ∨ W.heap.size ≤ g :=
  (push_any (wq_heap base b W r) costLt W l x h.toQ hl h.heap).mono (by
    rintro e w' ⟨rfl, l', hq, hp, hh⟩
    obtain ⟨r', h1, h2, h3⟩ := WHeap.ofQ hq hh
    exact ⟨rfl, l', r', hp, h1, h2, h3⟩)
theorem wpop_any {base b : Nat} {r : Option Nat} {W : World} {l : List ItemL} (h : WHeap base b r W l) (hl : l.length ≤ 1000000) (h0 : 0 < l.length) :
    Calls Tryd.prog 99 #[.iface 235 (.pointer (some ⟨b, 0, none⟩))] W fun e w' => ∃ x l' r', e = .returned (itemI x) ∧ (x :: l').Perm l ∧ (∀ y ∈ l', x.cost ≤ y.cost) ∧ WHeap base b r' w' l' ∧ WFar b r W w' ∧ ∀ g, r' = some g → r = some g ∨ W.heap.size ≤ g :=
  (pop_any (wq_heap base b W r) costLt W l h.toQ hl h0 h.heap).mono (by
    rintro e w' ⟨x, l', rfl, hq, hp, hh, hm⟩
    obtain ⟨r', h1, h2, h3⟩ := WHeap.ofQ hq hh
    exact ⟨x, l', r', rfl, hp, hm, h1, h2, h3⟩)
end Go.Proofs.YtkmnacchiagipaaDoor
