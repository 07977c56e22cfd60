/- topo.lowest: its methods; it is a heap. -/
import Derived.Test.YtfikkpgigicepaaHeap2
import Derived.OpenShut
import Derived.RegionTactic
import Derived.Test.YtfikkpgigicepaaRegionLast
import Derived.Deep.RegionHeld3
import Derived.Deep.DeepCutAuto
import Derived.Deep.CutBlock
import Derived.Test.YtfikkpgigicepaaBuild
namespace Go.Proofs.Ytfikkpgigicepaa
open Go.RowKit

def lowCells (q : Nat) : List Value := [.int .i64 q]
def lowI (q : Nat) : Value := .iface 3 (.int .i64 q)
abbrev LQ (base b : Nat) (W0 : World) (R0 : Option Nat) (W : World) (l : List Nat) : Prop := QSt lowCells 1 146 3 base b W0 R0 W l
theorem low_map (l : List Nat) : l.flatMap lowCells = l.map (fun q : Nat => Value.int .i64 q) := by
  induction l with
  | nil => rfl
  | cons a l ih => simp [lowCells, ih]
theorem eltLow : Elt Try.prog 146 3 (.int .i64 0) 1 8 := ⟨Try.underlying146, by kernel_rfl, rfl, by omega⟩
@[go_sem] theorem as_int (v : Value) (w : World) : (Instr.typeAssert (.iface 3 v) 20 3 false).run Try.prog w = .ok v w := by kernel_rfl

set_option maxRecDepth 100000
set_option maxHeartbeats 4000000
theorem lq_len (A : Option Addr) (n c : Nat) (W : World) : Calls Try.prog 117 #[.slice A n c] W fun e w' => e = .returned (.int .i64 n) ∧ W = w' := by
  go_enter Try.func117, Try.ntmps117
  go_wp2
  exact bodyPost_ret (v := .int .i64 n) (by simp [results, Try.results117, go_sem]) rfl ⟨rfl, rfl⟩
theorem low_cell {W : World} {base g c : Nat} {l : List Nat} (hO : W.ownsRow base 3 1 (.slice (some ⟨g, 0, none⟩) l.length c) l.length (l.flatMap lowCells)) (i : Nat) (hi : i < l.length) : W.cell? ⟨g, i, none⟩ = some (.int .i64 (l[i] : Nat)) := by
  rw [low_map] at hO
  have := hO.cellAt i (by omega)
  rw [this]; simp [hi]
theorem lq_less (base b : Nat) (W0 W : World) (R0 : Option Nat) (l : List Nat) (hS : LQ base b W0 R0 W l) (g c : Nat) (hO : W.ownsRow base 3 1 (.slice (some ⟨g, 0, none⟩) l.length c) l.length (l.flatMap lowCells)) (i j : Nat) (hi : i < l.length) (hj : j < l.length) :
    Calls Try.prog 118 #[.slice (some ⟨g, 0, none⟩) l.length c, .int .i64 i, .int .i64 j] W fun e w' => e = .returned (.bool (decide ((l[i] : Int) < (l[j] : Int)))) ∧ LQ base b W0 R0 w' l := by
  have c1 := low_cell hO i hi
  have c2 := low_cell hO j hj
  have HS := Lib.hid hS
  clear hS hO
  have i0 : (0 : Int) ≤ ↑i := by omega
  have j0 : (0 : Int) ≤ ↑j := by omega
  have i1 : (↑i : Int) < ↑l.length := by omega
  have j1 : (↑j : Int) < ↑l.length := by omega
  generalize l[i] = x at *
  generalize l[j] = y at *
  go_enter Try.func118, Try.ntmps118
  go_wp2_with fail
  go_region
  all_goals
    go_wp2_with fail
    exact bodyPost_ret (v := .bool (decide ((x : Int) < (y : Int)))) (by simp [results, Try.results118, go_sem]) rfl ⟨rfl, HS.out.keep (Below.refl _ _).drew⟩
theorem lq_swap (base b : Nat) (W0 W : World) (R0 : Option Nat) (l : List Nat) (hS : LQ base b W0 R0 W l) (g c : Nat) (hB : Blk W b #[.slice (some ⟨g, 0, none⟩) l.length c] 146) (hO : W.ownsRow base 3 1 (.slice (some ⟨g, 0, none⟩) l.length c) l.length (l.flatMap lowCells)) (i j : Nat) (hi : i < l.length) (hj : j < l.length) :
    Calls Try.prog 119 #[.slice (some ⟨g, 0, none⟩) l.length c, .int .i64 i, .int .i64 j] W fun e w' => e = .returned (.tuple #[]) ∧ LQ base b W0 R0 w' (swapL l i j) := by
  have c1 := low_cell hO i hi
  have c2 := low_cell hO j hj
  have f := hO.frozenAt
  have HS := Lib.hid hS; have HO := Lib.hid hO; have HB := Lib.hid hB
  clear hS hO hB
  have i0 : (0 : Int) ≤ ↑i := by omega
  have j0 : (0 : Int) ≤ ↑j := by omega
  have i1 : (↑i : Int) < ↑l.length := by omega
  have j1 : (↑j : Int) < ↑l.length := by omega
  generalize hx : l[i] = x at *
  generalize hy : l[j] = y at *
  have HX := Lib.hid hx; have HY := Lib.hid hy
  clear hx hy
  have hz : (W.setCell ⟨g, i, none⟩ (.int .i64 (y : Nat))).cell? ⟨g, j, none⟩ = some (.int .i64 (y : Nat)) := by
    by_cases e : i = j
    · subst e; exact World.cell?_setCell_same _ _ _ c1
    · rw [World.cell?_setCell_other _ _ _ _ (by intro h; injection h with h1 h2; omega)]; exact c2
  have hf : (W.setCell ⟨g, i, none⟩ (.int .i64 (y : Nat))).frozen? ⟨g, j, none⟩ = false := by rw [World.frozen?_setCell]; exact f j
  go_enter Try.func119, Try.ntmps119
  go_wp2_with fail
  go_region
  all_goals
    obtain ⟨o1, g1⟩ := HO.out.stored i (.int .i64 (y : Nat))
    obtain ⟨o2, g2⟩ := o1.stored j (.int .i64 (x : Nat))
    have Q2 : LQ base b W0 R0 ((W.setCell ⟨g, i, none⟩ (.int .i64 (y : Nat))).setCell ⟨g, j, none⟩ (.int .i64 (x : Nat))) (swapL l i j) := by
      refine QSt.cells HS.out HB.out (grown_then g1 g2) (swapL_len l i j).symm ?_
      rw [swapL_eq l i j hi hj, HX.out, HY.out, low_map, List.map_set, List.map_set, ← low_map]
      exact o2
    have HQ := Lib.hid (Q2.keep (Below.refl _ _).drew)
    clear Q2 o1 o2 g1 g2 hz hf c1 c2 f
    go_end0
    exact ⟨rfl, HQ.out⟩
theorem lq_pop (base b : Nat) (W0 W : World) (R0 : Option Nat) (l : List Nat) (x : Nat) (hS : LQ base b W0 R0 W (l ++ [x])) (hl : l.length + 1 ≤ 1000000) :
    Calls Try.prog 120 #[.pointer (some ⟨b, 0, none⟩)] W fun e w' => e = .returned (lowI x) ∧ LQ base b W0 R0 w' l := by
  obtain ⟨g, c, hB, hO, hg, hbg, hc1, hc2⟩ := hS.addr (by simp)
  have HS := Lib.hid hS; have HB := Lib.hid hB
  have c10 := low_cell hO l.length (by simp)
  have e1 : (l ++ [x])[l.length]'(by simp) = x := by simp
  rw [e1] at c10
  have kb := hB.cell; have fb := hB.froz; have lb := hB.lt
  have hll : (l ++ [x]).length = l.length + 1 := by simp
  rw [hll] at kb hO hc1
  have HO := Lib.hid hO
  clear hS hO hB e1 hll
  generalize hn : l.length = n at *
  have HN := Lib.hid hn; clear hn
  simp only [maxLen] at hc2
  go_enter Try.func120, Try.ntmps120
  go_wp2_with fail
  have O2 : W.ownsRow base 3 1 (.slice (some ⟨g, 0, none⟩) n c) n (l.flatMap lowCells) := by
    refine ownsRow_pop (xs := l.flatMap lowCells) (last := lowCells x) ?_ ?_
    · rw [low_map, List.length_map, HN.out, Nat.mul_one]
    · have := HO.out
      simpa using this
  have Q2 : LQ base b W0 R0 (W.setCell ⟨b, 0, none⟩ (.slice (some ⟨g, 0, none⟩) n c)) l :=
    QSt.row HS.out HB.out (World.grownBy.refl W _) HN.out.symm O2 (fun k hk => .inl (by simpa [Value.ownBlock] using hk))
  exact bodyPost_ret (v := lowI x) (by simp [results, Try.results120, go_sem, lowI]) rfl ⟨rfl, Q2⟩
theorem lq_push (base b : Nat) (W0 W : World) (R0 : Option Nat) (l : List Nat) (x : Nat) (hS : LQ base b W0 R0 W l) (hl : l.length + 1 ≤ 1000000) :
    Calls Try.prog 121 #[.pointer (some ⟨b, 0, none⟩), lowI x] W fun e w' => e = .returned (.tuple #[]) ∧ LQ base b W0 R0 w' (l ++ [x]) := by
  obtain ⟨A, c, hB, hO, -⟩ := hS.q
  have HS := Lib.hid hS; have HB := Lib.hid hB
  have kb := hB.cell; have fb := hB.froz; have lb := hB.lt
  have HO := Lib.hid hO
  clear hS hO hB
  generalize hn : l.length = n at *
  have HN := Lib.hid hn; clear hn
  unfold lowI
  have hbs := Nat.le_trans HS.out.hb HS.out.size
  have hne : some b ≠ (Value.slice A n c).ownBlock := (row_ne_blk HO.out HB.out HS.out.hne).symm
  go_enter Try.func121, Try.ntmps121
  refine wp_region_noPanic ?_
  refine wp_region_last_drew (fun w' => w'.cell? ⟨b, 0, none⟩ = some (.slice A n c)) (by kernel_rfl) (by simp only [List.back?_toArray, List.getLast?_cons_cons, List.getLast?_singleton]; rfl) (by simp only [List.pop_toArray, List.dropLast_cons_cons, List.dropLast_singleton]; rfl) (by kernel_rfl) (by simpa using kb 0) (fun hHeld => ?_)
  refine wpAnyH_take (i := 0) (v := ?v0) (by simp only [List.getElem?_toArray, List.getElem?_cons_zero]; rfl) (by kernel_rfl) (by kernel_rfl) (by kernel_rfl) (fun _ _ _ h => h) (Or.inl ⟨by rfl, ?h0⟩) hHeld ?r0
  case h0 => intro w hSw; (try dsimp only at hSw); go_simp; with_reducible rfl
  simp only [Act.put, List.setIfInBounds_toArray, List.set_cons_zero, List.set_cons_succ]
  refine wpAnyH_take (i := 1) (v := ?v1) (by simp only [List.getElem?_toArray, List.getElem?_cons_succ, List.getElem?_cons_zero]; rfl) (by kernel_rfl) (by kernel_rfl) (by kernel_rfl) (fun _ _ _ h => h) (Or.inl ⟨by rfl, ?h1⟩) hHeld ?r1
  case h1 => intro w hSw; (try dsimp only at hSw); go_simp; with_reducible rfl
  simp only [Act.put, List.setIfInBounds_toArray, List.set_cons_zero, List.set_cons_succ]
  refine wpAnyH_take (i := 2) (v := ?v2) (by simp only [List.getElem?_toArray, List.getElem?_cons_succ, List.getElem?_cons_zero]; rfl) (by kernel_rfl) (by kernel_rfl) (by kernel_rfl) (fun _ _ _ h => h) (Or.inl ⟨by rfl, ?h2⟩) hHeld ?r2
  case h2 => intro w hSw; (try dsimp only at hSw); go_simp; with_reducible rfl
  simp only [Act.put, List.setIfInBounds_toArray, List.set_cons_zero, List.set_cons_succ]
  refine wpAnyH_take (i := 3) (v := ?v3) (by simp only [List.getElem?_toArray, List.getElem?_cons_succ, List.getElem?_cons_zero]; rfl) (by kernel_rfl) (by kernel_rfl) (by kernel_rfl) (fun _ _ _ h => h) (Or.inl ⟨by rfl, ?h3⟩) hHeld ?r3
  case h3 => intro w hSw; (try dsimp only at hSw); go_simp; with_reducible rfl
  simp only [Act.put, List.setIfInBounds_toArray, List.set_cons_zero, List.set_cons_succ]
  refine wpAnyH_take (i := 4) (v := ?v4) (by simp only [List.getElem?_toArray, List.getElem?_cons_succ, List.getElem?_cons_zero]; rfl) (by kernel_rfl) (by kernel_rfl) (by kernel_rfl) (fun _ _ _ h => h) (Or.inl ⟨by rfl, ?h4⟩) hHeld ?r4
  case h4 => intro w hSw; (try dsimp only at hSw); go_simp; with_reducible rfl
  simp only [Act.put, List.setIfInBounds_toArray, List.set_cons_zero, List.set_cons_succ]
  refine wpAnyH_take (i := 5) (v := ?v5) (by simp only [List.getElem?_toArray, List.getElem?_cons_succ, List.getElem?_cons_zero]; rfl) (by kernel_rfl) (by kernel_rfl) (by kernel_rfl) (fun _ _ _ h => h) (Or.inl ⟨by rfl, ?h5⟩) hHeld ?r5
  case h5 => intro w hSw; (try dsimp only at hSw); go_simp; with_reducible rfl
  simp only [Act.put, List.setIfInBounds_toArray, List.set_cons_zero, List.set_cons_succ]
  refine wpAnyH_ready (rs := [6]) (by kernel_rfl) (by simp) (AllReadyH.cons (by simp only [List.getElem?_toArray, List.getElem?_cons_succ, List.getElem?_cons_zero]; rfl) (fun K hK => ?s9) AllReadyH.nil)
  go_simp
  refine hK.out _ _ (cell_keep (w := W) (B := W.heap.size) (by repeat' (first | exact Below.refl _ _ | assumption | refine Below.drew ?_ | refine Below.alloc ?_ (by first | omega | (simp; done) | (simp; omega)) _ | refine Below.setCell ?_ (by first | omega | (simp; done) | (simp; omega)) _)) (Nat.le_refl _) (by simpa using kb 0)) (fun hHeld => ?_)
  clear hK K
  refine wpAnyH_ready (rs := [7]) (by kernel_rfl) (by simp) (AllReadyH.cons (by simp only [List.getElem?_toArray, List.getElem?_cons_succ, List.getElem?_cons_zero]; rfl) (fun K hK => ?s10) AllReadyH.nil)
  refine step_app1 (by rfl) _ _ (by rfl) eltLow base (.slice A n c) _ _ (by rfl) (HO.out.alloc _) W.heap.size #[.int .i64 (x : Nat)] (heap_alloc_new W _) (by rfl) (by rfl) (by simp [Value.oneCell']) (by omega) (by omega) (by simp; omega) ?_; intro g3 cap w8 ho8 hg8 hat8 hlt8; have z1 := hg8.cell hHeld hne
  refine hK.out _ _ z1 (fun hHeld => ?_)
  clear hK K
  simp only [Act.put, List.setIfInBounds_toArray, List.set_cons_zero, List.set_cons_succ]
  refine wpAnyH_take (i := 8) (v := ?v8) (by simp only [List.getElem?_toArray, List.getElem?_cons_succ, List.getElem?_cons_zero]; rfl) (by kernel_rfl) (by kernel_rfl) (by kernel_rfl) (fun _ _ _ h => h) (Or.inl ⟨by rfl, ?h8⟩) hHeld ?r8
  case h8 => intro w hSw; (try dsimp only at hSw); go_simp; with_reducible rfl
  simp only [Act.put, List.setIfInBounds_toArray, List.set_cons_zero, List.set_cons_succ]
  refine wpAnyH_done (by kernel_rfl) ?_ _
  show Oper.wp _ _ _ _ _ _
  have hz1 : w8.frozen? ⟨b, 0, none⟩ = false := by
    rw [World.frozen?_of_block (hg8.block b (by simp; omega) hne)]
    exact ((HB.out.alloc _).drew).froz 0
  have lg8 := World.block_lt_of_cell? _ _ z1
  go_simp
  refine NoPanic.normal ?_
  have Q2 : LQ base b W0 R0 (w8.setCell ⟨b, 0, none⟩ (.slice (some ⟨g3, 0, none⟩) (n + 1) cap)) (l ++ [x]) := by
    have b7 : Below W.heap.size W (W.alloc (.cells #[.int .i64 (x : Nat)] 3)).drew := (by repeat' (first | exact Below.refl _ _ | assumption | refine Below.drew ?_ | refine Below.alloc ?_ (by first | omega | (simp; done) | (simp; omega)) _ | refine Below.setCell ?_ (by first | omega | (simp; done) | (simp; omega)) _))
    have hn := HN.out
    subst hn
    refine QSt.row (HS.out.keep b7) (HB.out.step b7) hg8 (by simp) (by simpa [lowCells] using ho8) (fun k hk => ?_)
    simp only [Value.ownBlock, Option.some.injEq] at hk
    subst hk
    exact hat8.imp id (fun h => by omega)
  have HQ := Lib.hid Q2
  clear Q2 z1 hz1
  go_end0
  exact ⟨rfl, HQ.out⟩
theorem lq_heap (base b : Nat) (W0 : World) (R0 : Option Nat) : HeapI 148 (.pointer (some ⟨b, 0, none⟩)) lowI (fun x y => decide ((x : Int) < (y : Int))) (LQ base b W0 R0) := by
  have hld : ∀ (W : World) (A : Option Addr) (n c : Nat), Blk W b #[.slice A n c] 146 → (loadVar 146 ⟨b, 0, none⟩).run Try.prog W = .ok (.slice A n c) W := fun W A n c h => by
    have := h.cell 0
    simp [loadVar, go_sem, this]
  constructor
  · refine ⟨117, fun x W => by simp [go_sem], fun W l hS => ?_⟩
    obtain ⟨A, c, hB, hO, -⟩ := hS.q
    exact ⟨_, method_val (P := Try.prog) (by kernel_rfl) Try.underlying148 _ (hld _ _ _ _ hB), (lq_len A l.length c W).mono (by rintro e w' ⟨rfl, rfl⟩; exact ⟨rfl, hS⟩)⟩
  · refine ⟨118, fun x W => by simp [go_sem], fun W l hS i j x y hx hy hi hj => ?_⟩
    obtain ⟨g, c, hB, hO, -⟩ := hS.addr (by omega)
    subst hx; subst hy
    exact ⟨_, method_val (P := Try.prog) (by kernel_rfl) Try.underlying148 _ (hld _ _ _ _ hB), lq_less base b W0 W R0 l hS g c hO i j hi hj⟩
  · refine ⟨119, fun x W => by simp [go_sem], fun W l hS i j x y hx hy hi hj => ?_⟩
    obtain ⟨g, c, hB, hO, -⟩ := hS.addr (by omega)
    subst hx; subst hy
    exact ⟨_, method_val (P := Try.prog) (by kernel_rfl) Try.underlying148 _ (hld _ _ _ _ hB), lq_swap base b W0 W R0 l hS g c hB hO i j hi hj⟩
  · refine ⟨121, fun x W => by simp [go_sem], fun W l hS hl x => ?_⟩
    exact ⟨_, method_ptr (P := Try.prog) (by kernel_rfl) Try.underlying148 _, lq_push base b W0 W R0 l x hS hl⟩
  · refine ⟨120, fun x W => by simp [go_sem], fun W l x hS hl => ?_⟩
    exact ⟨_, method_ptr (P := Try.prog) (by kernel_rfl) Try.underlying148 _, lq_pop base b W0 W R0 l x hS hl⟩

/-- what a call on a heap in box b leaves as it was -/
structure LFar (b : Nat) (r : Option Nat) (W W' : World) : Prop where
  os : W'.os = W.os
  tape : W'.tape = W.tape
  output : W'.output = W.output
  size : W.heap.size ≤ W'.heap.size
  block : ∀ k, k < W.heap.size → k ≠ b → r ≠ some k → W'.heap[k]? = W.heap[k]?
theorem LFar.below {B b : Nat} {r : Option Nat} {W W' : World} (h : LFar b r W W') (hB : B ≤ b) (hr : ∀ k, r = some k → B ≤ k) (hs : B ≤ W.heap.size) : Below B W W' :=
  ⟨h.os, h.tape, h.output, h.size, fun k hk => h.block k (by omega) (by omega) (fun e => by have := hr k e; omega)⟩
theorem LFar.blk {b k : Nat} {r : Option Nat} {W W' : World} (h : LFar b r W W') {cs : Array Value} {t : TypeId} (hB : Blk W k cs t) (h1 : k ≠ b) (h2 : r ≠ some k) : Blk W' k cs t := hB.kept (h.block k hB.lt h1 h2)
/-- the heap of numbers in box b, its row in block r -/
structure LHeap (base b : Nat) (r : Option Nat) (W : World) (l : List Nat) : Prop where
  q : ∃ A c, Blk W b #[.slice A l.length c] 146 ∧ W.ownsRow base 3 1 (.slice A l.length c) l.length (l.flatMap lowCells) ∧ (Value.slice A l.length c).ownBlock = r
  heap : Heap (fun q : Nat => (q : Int)) l l.length
  hb : base ≤ W.heap.size
section
variable {base b : Nat} {r : Option Nat} {W W' : World} {l : List Nat}
theorem LHeap.keep (h : LHeap base b r W l) (hb : Below W.heap.size W W') : LHeap base b r W' l := by
  obtain ⟨A, c, h1, h2, h3⟩ := h.q
  exact ⟨⟨A, c, h1.step hb, own_below h2 hb (Nat.le_refl _), h3⟩, h.heap, Nat.le_trans h.hb hb.size⟩
theorem LHeap.row (h : LHeap base b r W l) : ∀ k, r = some k → base ≤ k ∧ k < W.heap.size := by
  obtain ⟨A, c, h1, h2, h3⟩ := h.q
  intro k hk
  exact h2.lt k (h3.trans hk)
theorem LHeap.blt (h : LHeap base b r W l) : b < W.heap.size := by
  obtain ⟨A, c, h1, h2, h3⟩ := h.q
  exact h1.lt
theorem LHeap.far (h : LHeap base b r W l) {m : Option Nat} (hg : W.grownBy W' m) (h1 : m ≠ some b) (h2 : r = none ∨ r ≠ m) : LHeap base b r W' l := by
  obtain ⟨A, c, k1, k2, k3⟩ := h.q
  exact ⟨⟨A, c, k1.grown hg h1.symm, k2.kept hg (by rw [k3]; exact h2), k3⟩, h.heap, Nat.le_trans h.hb hg.size⟩
theorem LHeap.toQ (h : LHeap base b r W l) : LQ base b W r W l := by
  obtain ⟨A, c, k1, k2, rfl⟩ := h.q
  exact QSt.start k1 k2 (by decide) h.hb
theorem LHeap.ofQ {W0 : World} {r0 : Option Nat} (h : LQ base b W0 r0 W l) (hh : Heap (fun q : Nat => (q : Int)) l l.length) : ∃ r, LHeap base b r W l ∧ LFar b r0 W0 W ∧ ∀ g, r = some g → r0 = some g ∨ W0.heap.size ≤ g := by
  obtain ⟨A, c, k1, k2, k3⟩ := h.q
  exact ⟨_, ⟨⟨A, c, k1, k2, rfl⟩, hh, Nat.le_trans h.hb h.size⟩, ⟨h.os, h.tape, h.output, h.size, h.block⟩, k3⟩
end
theorem lpush_any {base b : Nat} {r : Option Nat} {W : World} {l : List Nat} (h : LHeap base b r W l) (hl : l.length + 1 ≤ 1000000) (x : Nat) :
    Calls Try.prog 76 #[.iface 148 (.pointer (some ⟨b, 0, none⟩)), lowI x] W fun e w' => e = .returned (.tuple #[]) ∧ ∃ l' r', l'.Perm (l ++ [x]) ∧ LHeap base b r' w' l' ∧ LFar b r W w' ∧ ∀ g, r' = some g → r = some g ∨ W.heap.size ≤ g :=
  (push_any (lq_heap base b W r) (fun _ _ => rfl) W l x h.toQ hl h.heap).mono (by
    rintro e w' ⟨rfl, l', hq, hp, hh⟩
    obtain ⟨r', h1, h2, h3⟩ := LHeap.ofQ hq hh
    exact ⟨rfl, l', r', hp, h1, h2, h3⟩)
theorem lpop_any {base b : Nat} {r : Option Nat} {W : World} {l : List Nat} (h : LHeap base b r W l) (hl : l.length ≤ 1000000) (h0 : 0 < l.length) :
    Calls Try.prog 77 #[.iface 148 (.pointer (some ⟨b, 0, none⟩))] W fun e w' => ∃ x l' r', e = .returned (lowI x) ∧ (x :: l').Perm l ∧ (∀ y ∈ l', x ≤ y) ∧ LHeap base b r' w' l' ∧ LFar b r W w' ∧ ∀ g, r' = some g → r = some g ∨ W.heap.size ≤ g :=
  (pop_any (lq_heap base b W r) (fun _ _ => rfl) W l h.toQ hl h0 h.heap).mono (by
    rintro e w' ⟨x, l', rfl, hq, hp, hh, hm⟩
    obtain ⟨r', h1, h2, h3⟩ := LHeap.ofQ hq hh
    exact ⟨x, l', r', rfl, hp, fun y hy => by have := hm y hy; omega, h1, h2, h3⟩)
end Go.Proofs.Ytfikkpgigicepaa
