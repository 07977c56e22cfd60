/- topo.lowest: its methods; it is a heap. -/
/- topo.Order. -/
import Derived.Test.YtkmnacchiagipaaDoorHeap2
import Derived.OpenShut
import Derived.RegionTactic
import Derived.Test.YtkmnacchiagipaaDoorRegionLast
import Derived.Deep.RegionHeld3
import Derived.Deep.DeepCutAuto
import Derived.Deep.CutBlock
import Derived.Test.YtkmnacchiagipaaDoorBuild
import Derived.Test.YtkmnacchiagipaaDoorOrderPlain
import Derived.Test.YtkmnacchiagipaaDoorCheck
import Derived.Test.YtkmnacchiagipaaDoorSlices
import Derived.Deep.LoopGhost
import Derived.LoopTactic
import Derived.IntWalk
namespace Go.Proofs.YtkmnacchiagipaaDoor
open Go.RowKit

def lowCells (q : Nat) : List Value := [.int .i64 q]
def lowI (q : Nat) : Value := .iface 3 (.int .i64 q)
abbrev LQ (base b : Nat) (W0 : World) (R0 : Option Nat) (W : World) (l : List Nat) : Prop := QSt lowCells 1 189 3 base b W0 R0 W l
theorem low_map (l : List Nat) : l.flatMap lowCells = l.map (fun q : Nat => Value.int .i64 q) := by
  induction l with
  | nil => rfl
  | cons a l ih => simp [lowCells, ih]
theorem eltLow : Elt Tryd.prog 189 3 (.int .i64 0) 1 8 := ⟨Tryd.underlying189, by kernel_rfl, rfl, by omega⟩
@[go_sem] theorem as_int (v : Value) (w : World) : (Instr.typeAssert (.iface 3 v) 20 3 false).run Tryd.prog w = .ok v w := by kernel_rfl

set_option maxRecDepth 100000
set_option maxHeartbeats 4000000
theorem lq_len (A : Option Addr) (n c : Nat) (W : World) : Calls Tryd.prog 226 #[.slice A n c] W fun e w' => e = .returned (.int .i64 n) ∧ W = w' := by
  go_enter Tryd.func226, Tryd.ntmps226
  go_wp2
  exact bodyPost_ret (v := .int .i64 n) (by simp [results, Tryd.results226, go_sem]) rfl ⟨rfl, rfl⟩
theorem low_cell {W : World} {base g c : Nat} {l : List Nat} (hO : W.ownsRow base 3 1 (.slice (some ⟨g, 0, none⟩) l.length c) l.length (l.flatMap lowCells)) (i : Nat) (hi : i < l.length) : W.cell? ⟨g, i, none⟩ = some (.int .i64 (l[i] : Nat)) := by
  rw [low_map] at hO
  have := hO.cellAt i (by omega)
  rw [this]; simp [hi]
theorem lq_less (base b : Nat) (W0 W : World) (R0 : Option Nat) (l : List Nat) (hS : LQ base b W0 R0 W l) (g c : Nat) (hO : W.ownsRow base 3 1 (.slice (some ⟨g, 0, none⟩) l.length c) l.length (l.flatMap lowCells)) (i j : Nat) (hi : i < l.length) (hj : j < l.length) :
    Calls Tryd.prog 227 #[.slice (some ⟨g, 0, none⟩) l.length c, .int .i64 i, .int .i64 j] W fun e w' => e = .returned (.bool (decide ((l[i] : Int) < (l[j] : Int)))) ∧ LQ base b W0 R0 w' l := by
  have c1 := low_cell hO i hi
  have c2 := low_cell hO j hj
  have HS := Lib.hid hS
  clear hS hO
  have i0 : (0 : Int) ≤ ↑i := by omega
  have j0 : (0 : Int) ≤ ↑j := by omega
  have i1 : (↑i : Int) < ↑l.length := by omega
  have j1 : (↑j : Int) < ↑l.length := by omega
  generalize l[i] = x at *
  generalize l[j] = y at *
  go_enter Tryd.func227, Tryd.ntmps227
  go_wp2_with fail
  go_region
  all_goals
    go_wp2_with fail
    exact bodyPost_ret (v := .bool (decide ((x : Int) < (y : Int)))) (by simp [results, Tryd.results227, go_sem]) rfl ⟨rfl, HS.out.keep (Below.refl _ _).drew⟩
theorem lq_swap (base b : Nat) (W0 W : World) (R0 : Option Nat) (l : List Nat) (hS : LQ base b W0 R0 W l) (g c : Nat) (hB : Blk W b #[.slice (some ⟨g, 0, none⟩) l.length c] 189) (hO : W.ownsRow base 3 1 (.slice (some ⟨g, 0, none⟩) l.length c) l.length (l.flatMap lowCells)) (i j : Nat) (hi : i < l.length) (hj : j < l.length) :
    Calls Tryd.prog 228 #[.slice (some ⟨g, 0, none⟩) l.length c, .int .i64 i, .int .i64 j] W fun e w' => e = .returned (.tuple #[]) ∧ LQ base b W0 R0 w' (swapL l i j) := by
  have c1 := low_cell hO i hi
  have c2 := low_cell hO j hj
  have f := hO.frozenAt
  have HS := Lib.hid hS; have HO := Lib.hid hO; have HB := Lib.hid hB
  clear hS hO hB
  have i0 : (0 : Int) ≤ ↑i := by omega
  have j0 : (0 : Int) ≤ ↑j := by omega
  have i1 : (↑i : Int) < ↑l.length := by omega
  have j1 : (↑j : Int) < ↑l.length := by omega
  generalize hx : l[i] = x at *
  generalize hy : l[j] = y at *
  have HX := Lib.hid hx; have HY := Lib.hid hy
  clear hx hy
  have hz : (W.setCell ⟨g, i, none⟩ (.int .i64 (y : Nat))).cell? ⟨g, j, none⟩ = some (.int .i64 (y : Nat)) := by
    by_cases e : i = j
    · subst e; exact World.cell?_setCell_same _ _ _ c1
    · rw [World.cell?_setCell_other _ _ _ _ (by intro h; injection h with h1 h2; omega)]; exact c2
  have hf : (W.setCell ⟨g, i, none⟩ (.int .i64 (y : Nat))).frozen? ⟨g, j, none⟩ = false := by rw [World.frozen?_setCell]; exact f j
  go_enter Tryd.func228, Tryd.ntmps228
  go_wp2_with fail
  go_region
  all_goals
    obtain ⟨o1, g1⟩ := HO.out.stored i (.int .i64 (y : Nat))
    obtain ⟨o2, g2⟩ := o1.stored j (.int .i64 (x : Nat))
    have Q2 : LQ base b W0 R0 ((W.setCell ⟨g, i, none⟩ (.int .i64 (y : Nat))).setCell ⟨g, j, none⟩ (.int .i64 (x : Nat))) (swapL l i j) := by
      refine QSt.cells HS.out HB.out (grown_then g1 g2) (swapL_len l i j).symm ?_
      rw [swapL_eq l i j hi hj, HX.out, HY.out, low_map, List.map_set, List.map_set, ← low_map]
      exact o2
    have HQ := Lib.hid (Q2.keep (Below.refl _ _).drew)
    clear Q2 o1 o2 g1 g2 hz hf c1 c2 f
    go_end0
    exact ⟨rfl, HQ.out⟩
theorem lq_pop (base b : Nat) (W0 W : World) (R0 : Option Nat) (l : List Nat) (x : Nat) (hS : LQ base b W0 R0 W (l ++ [x])) (hl : l.length + 1 ≤ 1000000) :
    Calls Tryd.prog 229 #[.pointer (some ⟨b, 0, none⟩)] W fun e w' => e = .returned (lowI x) ∧ LQ base b W0 R0 w' l := by
  obtain ⟨g, c, hB, hO, hg, hbg, hc1, hc2⟩ := hS.addr (by simp)
  have HS := Lib.hid hS; have HB := Lib.hid hB
  have c10 := low_cell hO l.length (by simp)
  have e1 : (l ++ [x])[l.length]'(by simp) = x := by simp
  rw [e1] at c10
  have kb := hB.cell; have fb := hB.froz; have lb := hB.lt
  have hll : (l ++ [x]).length = l.length + 1 := by simp
  rw [hll] at kb hO hc1
  have HO := Lib.hid hO
  clear hS hO hB e1 hll
  generalize hn : l.length = n at *
  have HN := Lib.hid hn; clear hn
  simp only [maxLen] at hc2
  go_enter Tryd.func229, Tryd.ntmps229
  go_wp2_with fail
  have O2 : W.ownsRow base 3 1 (.slice (some ⟨g, 0, none⟩) n c) n (l.flatMap lowCells) := by
    refine ownsRow_pop (xs := l.flatMap lowCells) (last := lowCells x) ?_ ?_
    · rw [low_map, List.length_map, HN.out, Nat.mul_one]
    · have := HO.out
      simpa using this
  have Q2 : LQ base b W0 R0 (W.setCell ⟨b, 0, none⟩ (.slice (some ⟨g, 0, none⟩) n c)) l :=
    QSt.row HS.out HB.out (World.grownBy.refl W _) HN.out.symm O2 (fun k hk => .inl (by simpa [Value.ownBlock] using hk))
  exact bodyPost_ret (v := lowI x) (by simp [results, Tryd.results229, go_sem, lowI]) rfl ⟨rfl, Q2⟩
theorem lq_push (base b : Nat) (W0 W : World) (R0 : Option Nat) (l : List Nat) (x : Nat) (hS : LQ base b W0 R0 W l) (hl : l.length + 1 ≤ 1000000) :
    Calls Tryd.prog 230 #[.pointer (some ⟨b, 0, none⟩), lowI x] W fun e w' => e = .returned (.tuple #[]) ∧ LQ base b W0 R0 w' (l ++ [x]) := by
  obtain ⟨A, c, hB, hO, -⟩ := hS.q
  have HS := Lib.hid hS; have HB := Lib.hid hB
  have kb := hB.cell; have fb := hB.froz; have lb := hB.lt
  have HO := Lib.hid hO
  clear hS hO hB
  generalize hn : l.length = n at *
  have HN := Lib.hid hn; clear hn
  unfold lowI
  have hbs := Nat.le_trans HS.out.hb HS.out.size
  have hne : some b ≠ (Value.slice A n c).ownBlock := (row_ne_blk HO.out HB.out HS.out.hne).symm
  go_enter Tryd.func230, Tryd.ntmps230
  refine wp_region_noPanic ?_
  refine wp_region_last_drew (fun w' => w'.cell? ⟨b, 0, none⟩ = some (.slice A n c)) (by kernel_rfl) (by simp only [List.back?_toArray, List.getLast?_cons_cons, List.getLast?_singleton]; rfl) (by simp only [List.pop_toArray, List.dropLast_cons_cons, List.dropLast_singleton]; rfl) (by kernel_rfl) (by simpa using kb 0) (fun hHeld => ?_)
  refine wpAnyH_take (i := 0) (v := ?v0) (by simp only [List.getElem?_toArray, List.getElem?_cons_zero]; rfl) (by kernel_rfl) (by kernel_rfl) (by kernel_rfl) (fun _ _ _ h => h) (Or.inl ⟨by rfl, ?h0⟩) hHeld ?r0
  case h0 => intro w hSw; (try dsimp only at hSw); go_simp; with_reducible rfl
  simp only [Act.put, List.setIfInBounds_toArray, List.set_cons_zero, List.set_cons_succ]
  refine wpAnyH_take (i := 1) (v := ?v1) (by simp only [List.getElem?_toArray, List.getElem?_cons_succ, List.getElem?_cons_zero]; rfl) (by kernel_rfl) (by kernel_rfl) (by kernel_rfl) (fun _ _ _ h => h) (Or.inl ⟨by rfl, ?h1⟩) hHeld ?r1
  case h1 => intro w hSw; (try dsimp only at hSw); go_simp; with_reducible rfl
  simp only [Act.put, List.setIfInBounds_toArray, List.set_cons_zero, List.set_cons_succ]
  refine wpAnyH_take (i := 2) (v := ?v2) (by simp only [List.getElem?_toArray, List.getElem?_cons_succ, List.getElem?_cons_zero]; rfl) (by kernel_rfl) (by kernel_rfl) (by kernel_rfl) (fun _ _ _ h => h) (Or.inl ⟨by rfl, ?h2⟩) hHeld ?r2
  case h2 => intro w hSw; (try dsimp only at hSw); go_simp; with_reducible rfl
  simp only [Act.put, List.setIfInBounds_toArray, List.set_cons_zero, List.set_cons_succ]
  refine wpAnyH_take (i := 3) (v := ?v3) (by simp only [List.getElem?_toArray, List.getElem?_cons_succ, List.getElem?_cons_zero]; rfl) (by kernel_rfl) (by kernel_rfl) (by kernel_rfl) (fun _ _ _ h => h) (Or.inl ⟨by rfl, ?h3⟩) hHeld ?r3
  case h3 => intro w hSw; (try dsimp only at hSw); go_simp; with_reducible rfl
  simp only [Act.put, List.setIfInBounds_toArray, List.set_cons_zero, List.set_cons_succ]
  refine wpAnyH_take (i := 4) (v := ?v4) (by simp only [List.getElem?_toArray, List.getElem?_cons_succ, List.getElem?_cons_zero]; rfl) (by kernel_rfl) (by kernel_rfl) (by kernel_rfl) (fun _ _ _ h => h) (Or.inl ⟨by rfl, ?h4⟩) hHeld ?r4
  case h4 => intro w hSw; (try dsimp only at hSw); go_simp; with_reducible rfl
  simp only [Act.put, List.setIfInBounds_toArray, List.set_cons_zero, List.set_cons_succ]
  refine wpAnyH_take (i := 5) (v := ?v5) (by simp only [List.getElem?_toArray, List.getElem?_cons_succ, List.getElem?_cons_zero]; rfl) (by kernel_rfl) (by kernel_rfl) (by kernel_rfl) (fun _ _ _ h => h) (Or.inl ⟨by rfl, ?h5⟩) hHeld ?r5
  case h5 => intro w hSw; (try dsimp only at hSw); go_simp; with_reducible rfl
  simp only [Act.put, List.setIfInBounds_toArray, List.set_cons_zero, List.set_cons_succ]
  refine wpAnyH_ready (rs := [6]) (by kernel_rfl) (by simp) (AllReadyH.cons (by simp only [List.getElem?_toArray, List.getElem?_cons_succ, List.getElem?_cons_zero]; rfl) (fun K hK => ?s9) AllReadyH.nil)
  go_simp
  refine hK.out _ _ (cell_keep (w := W) (B := W.heap.size) (by repeat' (first | exact Below.refl _ _ | assumption | refine Below.drew ?_ | refine Below.alloc ?_ (by first | omega | (simp; done) | (simp; omega)) _ | refine Below.setCell ?_ (by first | omega | (simp; done) | (simp; omega)) _)) (Nat.le_refl _) (by simpa using kb 0)) (fun hHeld => ?_)
  clear hK K
  refine wpAnyH_ready (rs := [7]) (by kernel_rfl) (by simp) (AllReadyH.cons (by simp only [List.getElem?_toArray, List.getElem?_cons_succ, List.getElem?_cons_zero]; rfl) (fun K hK => ?s10) AllReadyH.nil)
  refine step_app1 (by rfl) _ _ (by rfl) eltLow base (.slice A n c) _ _ (by rfl) (HO.out.alloc _) W.heap.size #[.int .i64 (x : Nat)] (heap_alloc_new W _) (by rfl) (by rfl) (by simp [Value.oneCell']) (by omega) (by omega) (by simp; omega) ?_; intro g3 cap w8 ho8 hg8 hat8 hlt8; have z1 := hg8.cell hHeld hne
  refine hK.out _ _ z1 (fun hHeld => ?_)
  clear hK K
  simp only [Act.put, List.setIfInBounds_toArray, List.set_cons_zero, List.set_cons_succ]
  refine wpAnyH_take (i := 8) (v := ?v8) (by simp only [List.getElem?_toArray, List.getElem?_cons_succ, List.getElem?_cons_zero]; rfl) (by kernel_rfl) (by kernel_rfl) (by kernel_rfl) (fun _ _ _ h => h) (Or.inl ⟨by rfl, ?h8⟩) hHeld ?r8
  case h8 => intro w hSw; (try dsimp only at hSw); go_simp; with_reducible rfl
  simp only [Act.put, List.setIfInBounds_toArray, List.set_cons_zero, List.set_cons_succ]
  refine wpAnyH_done (by kernel_rfl) ?_ _
  show Oper.wp _ _ _ _ _ _
  have hz1 : w8.frozen? ⟨b, 0, none⟩ = false := by
    rw [World.frozen?_of_block (hg8.block b (by simp; omega) hne)]
    exact ((HB.out.alloc _).drew).froz 0
  have lg8 := World.block_lt_of_cell? _ _ z1
  go_simp
  refine NoPanic.normal ?_
  have Q2 : LQ base b W0 R0 (w8.setCell ⟨b, 0, none⟩ (.slice (some ⟨g3, 0, none⟩) (n + 1) cap)) (l ++ [x]) := by
    have b7 : Below W.heap.size W (W.alloc (.cells #[.int .i64 (x : Nat)] 3)).drew := (by repeat' (first | exact Below.refl _ _ | assumption | refine Below.drew ?_ | refine Below.alloc ?_ (by first | omega | (simp; done) | (simp; omega)) _ | refine Below.setCell ?_ (by first | omega | (simp; done) | (simp; omega)) _))
    have hn := HN.out
    subst hn
    refine QSt.row (HS.out.keep b7) (HB.out.step b7) hg8 (by simp) (by simpa [lowCells] using ho8) (fun k hk => ?_)
    simp only [Value.ownBlock, Option.some.injEq] at hk
    subst hk
    exact hat8.imp id (fun h => by omega)
  have HQ := Lib.hid Q2
  clear Q2 z1 hz1
  go_end0
  exact ⟨rfl, HQ.out⟩
theorem lq_heap (base b : Nat) (W0 : World) (R0 : Option Nat) : HeapI 191 (.pointer (some ⟨b, 0, none⟩)) lowI (fun x y => decide ((x : Int) < (y : Int))) (LQ base b W0 R0) := by
  have hld : ∀ (W : World) (A : Option Addr) (n c : Nat), Blk W b #[.slice A n c] 189 → (loadVar 189 ⟨b, 0, none⟩).run Tryd.prog W = .ok (.slice A n c) W := fun W A n c h => by
    have := h.cell 0
    simp [loadVar, go_sem, this]
  constructor
  · refine ⟨226, fun x W => by simp [go_sem], fun W l hS => ?_⟩
    obtain ⟨A, c, hB, hO, -⟩ := hS.q
    exact ⟨_, method_val (P := Tryd.prog) (by kernel_rfl) Tryd.underlying191 _ (hld _ _ _ _ hB), (lq_len A l.length c W).mono (by rintro e w' ⟨rfl, rfl⟩; exact ⟨rfl, hS⟩)⟩
  · refine ⟨227, fun x W => by simp [go_sem], fun W l hS i j x y hx hy hi hj => ?_⟩
    obtain ⟨g, c, hB, hO, -⟩ := hS.addr (by omega)
    subst hx; subst hy
    exact ⟨_, method_val (P := Tryd.prog) (by kernel_rfl) Tryd.underlying191 _ (hld _ _ _ _ hB), lq_less base b W0 W R0 l hS g c hO i j hi hj⟩
  · refine ⟨228, fun x W => by simp [go_sem], fun W l hS i j x y hx hy hi hj => ?_⟩
    obtain ⟨g, c, hB, hO, -⟩ := hS.addr (by omega)
    subst hx; subst hy
    exact ⟨_, method_val (P := Tryd.prog) (by kernel_rfl) Tryd.underlying191 _ (hld _ _ _ _ hB), lq_swap base b W0 W R0 l hS g c hB hO i j hi hj⟩
  · refine ⟨230, fun x W => by simp [go_sem], fun W l hS hl x => ?_⟩
    exact ⟨_, method_ptr (P := Tryd.prog) (by kernel_rfl) Tryd.underlying191 _, lq_push base b W0 W R0 l x hS hl⟩
  · refine ⟨229, fun x W => by simp [go_sem], fun W l x hS hl => ?_⟩
    exact ⟨_, method_ptr (P := Tryd.prog) (by kernel_rfl) Tryd.underlying191 _, lq_pop base b W0 W R0 l x hS hl⟩

/-- what a call on a heap in box b leaves as it was -/
structure LFar (b : Nat) (r : Option Nat) (W W' : World) : Prop where
  os : W'.os = W.os
  tape : W'.tape = W.tape
  output : W'.output = W.output
  size : W.heap.size ≤ W'.heap.size
  block : ∀ k, k < W.heap.size → k ≠ b → r ≠ some k → W'.heap[k]? = W.heap[k]?
theorem LFar.below {B b : Nat} {r : Option Nat} {W W' : World} (h : LFar b r W W') (hB : B ≤ b) (hr : ∀ k, r = some k → B ≤ k) (hs : B ≤ W.heap.size) : Below B W W' :=
  ⟨h.os, h.tape, h.output, h.size, fun k hk => h.block k (by omega) (by omega) (fun e => by have := hr k e; omega)⟩
theorem LFar.blk {b k : Nat} {r : Option Nat} {W W' : World} (h : LFar b r W W') {cs : Array Value} {t : TypeId} (hB : Blk W k cs t) (h1 : k ≠ b) (h2 : r ≠ some k) : Blk W' k cs t := hB.kept (h.block k hB.lt h1 h2)
/-- the heap of numbers in box b, its row in block r -/
structure LHeap (base b : Nat) (r : Option Nat) (W : World) (l : List Nat) : Prop where
  q : ∃ A c, Blk W b #[.slice A l.length c] 189 ∧ W.ownsRow base 3 1 (.slice A l.length c) l.length (l.flatMap lowCells) ∧ (Value.slice A l.length c).ownBlock = r
  heap : Heap (fun q : Nat => (q : Int)) l l.length
  hb : base ≤ W.heap.size
section
variable {base b : Nat} {r : Option Nat} {W W' : World} {l : List Nat}
theorem LHeap.keep (h : LHeap base b r W l) (hb : Below W.heap.size W W') : LHeap base b r W' l := by
  obtain ⟨A, c, h1, h2, h3⟩ := h.q
  exact ⟨⟨A, c, h1.step hb, own_below h2 hb (Nat.le_refl _), h3⟩, h.heap, Nat.le_trans h.hb hb.size⟩
theorem LHeap.row (h : LHeap base b r W l) : ∀ k, r = some k → base ≤ k ∧ k < W.heap.size := by
  obtain ⟨A, c, h1, h2, h3⟩ := h.q
  intro k hk
  exact h2.lt k (h3.trans hk)
theorem LHeap.blt (h : LHeap base b r W l) : b < W.heap.size := by
  obtain ⟨A, c, h1, h2, h3⟩ := h.q
  exact h1.lt
theorem LHeap.far (h : LHeap base b r W l) {m : Option Nat} (hg : W.grownBy W' m) (h1 : m ≠ some b) (h2 : r = none ∨ r ≠ m) : LHeap base b r W' l := by
  obtain ⟨A, c, k1, k2, k3⟩ := h.q
  exact ⟨⟨A, c, k1.grown hg h1.symm, k2.kept hg (by rw [k3]; exact h2), k3⟩, h.heap, Nat.le_trans h.hb hg.size⟩
theorem LHeap.toQ (h : LHeap base b r W l) : LQ base b W r W l := by
  obtain ⟨A, c, k1, k2, rfl⟩ := h.q
  exact QSt.start k1 k2 (by decide) h.hb
theorem LHeap.ofQ {W0 : World} {r0 : Option Nat} (h : LQ base b W0 r0 W l) (hh : Heap (fun q : Nat => (q : Int)) l l.length) : ∃ r, LHeap base b r W l ∧ LFar b r0 W0 W ∧ ∀ g, r = some g → r0 = some g ∨ W0.heap.size ≤ g := by
  obtain ⟨A, c, k1, k2, k3⟩ := h.q
  exact ⟨_, ⟨⟨A, c, k1, k2, rfl⟩, hh, Nat.le_trans h.hb h.size⟩, ⟨h.os, h.tape, h.output, h.size, h.block⟩, k3⟩
end
theorem lpush_any {base b : Nat} {r : Option Nat} {W : World} {l : List Nat} (h : LHeap base b r W l) (hl : l.length + 1 ≤ 1000000) (x : Nat) :
    Calls Tryd.prog 98 #[.iface 191 (.pointer (some ⟨b, 0, none⟩)), lowI x] W fun e w' => e = .returned (.tuple #[]) ∧ ∃ l' r', l'.Perm (l ++ [x]) ∧ LHeap base b r' w' l' ∧ LFar b r W w' ∧ ∀ g, r' = some g → r = some g ∨ W.heap.size ≤ g :=
  (push_any (lq_heap base b W r) (fun _ _ => rfl) W l x h.toQ hl h.heap).mono (by
    rintro e w' ⟨rfl, l', hq, hp, hh⟩
    obtain ⟨r', h1, h2, h3⟩ := LHeap.ofQ hq hh
    exact ⟨rfl, l', r', hp, h1, h2, h3⟩)
theorem lpop_any {base b : Nat} {r : Option Nat} {W : World} {l : List Nat} (h : LHeap base b r W l) (hl : l.length ≤ 1000000) (h0 : 0 < l.length) :
    Calls Tryd.prog 99 #[.iface 191 (.pointer (some ⟨b, 0, none⟩))] W fun e w' => ∃ x l' r', e = .returned (lowI x) ∧ (x :: l').Perm l ∧ (∀ y ∈ l', x ≤ y) ∧ LHeap base b r' w' l' ∧ LFar b r W w' ∧ ∀ g, r' = some g → r = some g ∨ W.heap.size ≤ g :=
  (pop_any (lq_heap base b W r) (fun _ _ => rfl) W l h.toQ hl h0 h.heap).mono (by
    rintro e w' ⟨x, l', rfl, hq, hp, hh, hm⟩
    obtain ⟨r', h1, h2, h3⟩ := LHeap.ofQ hq hh
    exact ⟨x, l', r', rfl, hp, fun y hy => by have := hm y hy; omega, h1, h2, h3⟩)
end Go.Proofs.YtkmnacchiagipaaDoor

namespace Go.Proofs.YtkmnacchiagipaaDoor
open Go.RowKit

abbrev intsA (l : List Int) : Array Value := (l.map (Value.int .i64)).toArray
theorem intsA_get (l : List Int) (p : Nat) (h : p < l.length) : (intsA l)[p]? = some (.int .i64 (l.getD p 0)) := by
  simp [h, List.getD_eq_getElem?_getD]
theorem intsA_set (l : List Int) (p : Nat) (v : Int) : (intsA l).setIfInBounds p (.int .i64 v) = intsA (l.set p v) := by simp [List.map_set]
theorem madeInts0 (n : Nat) : madeCells #[.int .i64 0] n = intsA (List.replicate n 0) := by unfold intsA; rw [made_at, List.map_replicate]
abbrev natCells (l : List Nat) : List Value := l.map (fun q : Nat => Value.int .i64 q)
theorem eltIntO : Elt Tryd.prog 29 3 (.int .i64 0) 1 8 := ⟨Tryd.underlying29, by kernel_rfl, rfl, by omega⟩

/-- Order's memory: the machine's box, the counts, the heap, the order -/
structure OS (w : World) (st : Int) (A : Option Addr) (n c Wb R : Nat) (W : World) (ws : List Int) (l : List Nat) (r : Option Nat) (ov : Value) (out : List Nat) : Prop where
  mb : Blk W w.heap.size #[.int .i64 st, .slice A n c] 41
  wb : Blk W Wb (intsA ws) 3
  hp : LHeap R R r W l
  ow : W.ownsRow R 3 1 ov out.length (natCells out)
  ap : ∀ k, ov.ownBlock = some k → r ≠ some k
  bel : Below w.heap.size w W
  h1 : w.heap.size < Wb
  h2 : Wb < R
section
variable {w W W' : World} {st : Int} {A : Option Addr} {n c Wb R : Nat} {ws : List Int} {l : List Nat} {r : Option Nat} {ov : Value} {out : List Nat}
theorem OS.keep (h : OS w st A n c Wb R W ws l r ov out) (hb : Below W.heap.size W W') : OS w st A n c Wb R W' ws l r ov out :=
  ⟨h.mb.step hb, h.wb.step hb, h.hp.keep hb, own_below h.ow hb (Nat.le_refl _), h.ap, h.bel.trans (hb.mono h.bel.size), h.h1, h.h2⟩
theorem OS.ovR (h : OS w st A n c Wb R W ws l r ov out) : ov.ownBlock ≠ some R := by
  obtain ⟨A', c', h1, _, _⟩ := h.hp.q
  exact row_ne_blk h.ow h1 (by decide)
theorem OS.heap (h : OS w st A n c Wb R W ws l r ov out) {l' : List Nat} {r' : Option Nat} (hp : LHeap R R r' W' l') (hf : LFar R r W W') (hr : ∀ g, r' = some g → r = some g ∨ W.heap.size ≤ g) : OS w st A n c Wb R W' ws l' r' ov out := by
  have hrow := h.hp.row
  have a1 := h.h1; have a2 := h.h2
  refine ⟨hf.blk h.mb (by omega) (fun e => by have := (hrow _ e).1; omega), hf.blk h.wb (by omega) (fun e => by have := (hrow _ e).1; omega), hp, ?_, fun k hk e => ?_, h.bel.trans (hf.below (by omega) (fun k e => by have := (hrow k e).1; omega) h.bel.size), a1, a2⟩
  · have hlt := h.ow.lt
    have hR := h.ovR
    have ha := h.ap
    rcases h.ow.2 with ⟨hv, hn⟩ | ⟨g, cap, cur, hv, hb, hg, rest⟩
    · exact ⟨h.ow.1, .inl ⟨hv, hn⟩⟩
    · subst hv
      exact ⟨h.ow.1, .inr ⟨g, cap, cur, rfl, hb, by rw [hf.block g (hlt g rfl).2 (fun e => hR (by simp [Value.ownBlock, e])) (ha g rfl)]; exact hg, rest⟩⟩
  · rcases hr k e with h3 | h3
    · exact h.ap k hk h3
    · have := (h.ow.lt k hk).2; omega
theorem OS.setW (h : OS w st A n c Wb R W ws l r ov out) (t : Nat) (x : Int) : OS w st A n c Wb R (W.setCell ⟨Wb, t, none⟩ (.int .i64 x)) (ws.set t x) l r ov out := by
  have a1 := h.h1; have a2 := h.h2
  refine ⟨h.mb.far (by simp; omega) _, (h.wb.put t _).eq (intsA_set _ _ _), h.hp.far (m := some Wb) ⟨rfl, rfl, rfl, by simp [World.setCell], fun k _ hne => Below.heap_setCell _ _ _ _ (by simpa using hne)⟩ (by simp; omega) ?_, own_setCell h.ow (fun e => by have := (h.ow.lt _ e).1; simp at this; omega) _, h.ap, h.bel.setCell (by simp; omega) _, a1, a2⟩
  cases hr : r with
  | none => exact .inl rfl
  | some k => exact .inr (fun e => by have := (h.hp.row k hr).1; cases e; omega)
theorem OS.app (h : OS w st A n c Wb R W ws l r ov out) {ov' : Value} {k : Nat} (q : Nat) (hk : k = out.length + 1) (hg : W.grownBy W' ov.ownBlock) (hx : W'.ownsRow R 3 1 ov' k (natCells out ++ [.int .i64 (q : Nat)])) (hat : ∀ g, ov'.ownBlock = some g → ov.ownBlock = some g ∨ W.heap.size ≤ g) : OS w st A n c Wb R W' ws l r ov' (out ++ [q]) := by
  have a1 := h.h1; have a2 := h.h2
  have hlt := h.ow.lt
  refine ⟨h.mb.grown hg (fun e => by have := (hlt _ e.symm).1; omega), h.wb.grown hg (fun e => by have := (hlt _ e.symm).1; omega), h.hp.far hg h.ovR ?_, ?_, fun g e e2 => ?_, h.bel.grown hg h.bel.size (fun k e => by have := (hlt k e).1; omega), a1, a2⟩
  · cases hr : r with
    | none => exact .inl rfl
    | some k => exact .inr (fun e => h.ap k e.symm hr)
  · subst hk
    rw [List.length_append, List.length_singleton]
    simpa [natCells] using hx
  · rcases hat g e with h3 | h3
    · exact h.ap g h3 e2
    · have := (h.hp.row g e2).2; omega
end

theorem degU_le {m : MachL} (h : ∀ p, (tos m p).length ≤ 400) (k q : Nat) : degU m k q ≤ k * 400 := by
  induction k with
  | zero => simp [degU]
  | succ k ih =>
    rw [degU_succ]
    have := List.count_le_length (a := q) (l := tos m k)
    have := h k
    omega
theorem dsum_le {m : MachL} (h : ∀ p, (tos m p).length ≤ 400) (out : List Nat) (q : Nat) : dsum m out q ≤ m.states.length * 400 := by
  unfold dsum
  have key : ∀ L : List Nat, (L.map (fun p => if p ∈ out then 0 else (tos m p).count q)).sum ≤ L.length * 400 := by
    intro L
    induction L with
    | nil => simp
    | cons a L ih =>
      simp only [List.map_cons, List.sum_cons, List.length_cons]
      have h1 := List.count_le_length (a := q) (l := tos m a)
      have h2 := h a
      split <;> omega
  have := key (List.range m.states.length)
  simpa using this
set_option maxRecDepth 100000 in
set_option maxHeartbeats 8000000 in
theorem Order_any (v : Value) (m : MachL) (w : World) (hm : MachAt w v m) (hv : Valid m) :
    Calls Tryd.prog 63 #[v] w fun e w' => ((∃ sv out, e = .returned (.tuple #[sv, .int .i64 0]) ∧ IsTopo m out ∧ w'.ownsRow w.heap.size 3 1 sv out.length (natCells out)) ∨ (e = .returned (.tuple #[.slice none 0 0, .int .i64 6]) ∧ ∃ S, Stuck m S)) ∧ Below w.heap.size w w' := by
  have CH := Lib.hid (fun W' (hb : Below w.heap.size w W') => Check_ok v m W' (hm.below hb) hv)
  obtain ⟨A, c, rfl, hS⟩ := hm
  have HS := Lib.hid hS; have HV := Lib.hid hv
  have hsz := hv.size
  have rd := hS.rdy
  have HTO : Hid (∀ k (hk : k < m.states.length), tos m k = m.states[k].arcs.map (fun a => a.to.toNat)) := Lib.hid (fun k hk => by unfold tos; rw [List.getElem?_eq_getElem hk]; rfl)
  have hal : ∀ s ∈ m.states, s.arcs.length ≤ 400 := fun s hs => by
    have h3 := hv.arcs
    have key : ∀ l : List StateL, s ∈ l → s.arcs.length ≤ arcsOf l := by
      intro l
      induction l with
      | nil => intro h; cases h
      | cons x l ih =>
        intro h
        unfold arcsOf
        simp only [List.map_cons, List.sum_cons]
        rcases List.mem_cons.1 h with rfl | h
        · omega
        · have := ih h; unfold arcsOf at this; omega
    have := key _ hs
    omega
  have HAL := Lib.hid hal
  have HD0 := Lib.hid (DegOk.zero m)
  clear hS hv hal
  generalize m.start = st at *
  go_enter Tryd.func63, Tryd.ntmps63
  go_wp2_with fail
  refine (CH.out _ (by repeat' (first | exact Below.refl _ _ | assumption | refine Below.drew ?_ | refine Below.alloc ?_ (by first | omega | (simp; done) | (simp; omega)) _ | refine Below.setCell ?_ (by first | omega | (simp; done) | (simp; omega)) _))).mono ?_; rintro e w1 ⟨rfl, r1⟩
  have b1 : Below w.heap.size w w1 := ((by repeat' (first | exact Below.refl _ _ | assumption | refine Below.drew ?_ | refine Below.alloc ?_ (by first | omega | (simp; done) | (simp; omega)) _ | refine Below.setCell ?_ (by first | omega | (simp; done) | (simp; omega)) _)) : Below w.heap.size w _).trans (r1.mono (by simp))
  have X1 : Blk w1 w.heap.size #[.int .i64 st, .slice A m.states.length c] 41 := Blk.step (Blk.new _ _ _) r1
  have q1 := X1.cell; have l1 := X1.lt
  have hmk := run_make_elt eltIntO w1 m.states.length (by omega) (by omega) (by omega)
  simp only [Value.cells, Nat.mul_one, madeInts0] at hmk
  clear r1 CH
  go_upto_region 6 with fail
  have W0 : Blk (w1.alloc (.cells (intsA (List.replicate m.states.length 0)) 3)) w1.heap.size _ _ := Blk.new _ _ _
  have X2 := X1.alloc (.cells (intsA (List.replicate m.states.length 0)) 3)
  have b2 := b1.alloc b1.size (.cells (intsA (List.replicate m.states.length 0)) 3)
  have HX2 := Lib.hid X2
  clear hmk X1 X2
  generalize w1.alloc (.cells (intsA (List.replicate m.states.length 0)) 3) = w2 at *
  have HT4 : Hid (∀ p, (tos m p).length ≤ 400) := Lib.hid (fun p => by
    unfold tos
    cases hp : m.states[p]? with
    | none => simp
    | some s => simpa using HAL.out s (List.mem_of_getElem? hp))
  have HW0 := Lib.hid W0
  have hw1 := b1.size
  clear q1 W0
  go_loopw [29] (fun iv wr => ∃ (k : Nat) (ws : List Int), k ≤ m.states.length ∧ iv = .int .i64 k ∧ Blk wr w1.heap.size (intsA ws) 3 ∧ Blk wr w.heap.size #[.int .i64 st, .slice A m.states.length c] 41 ∧ DegOk m k [] ws ∧ Below w.heap.size w wr) (fun iv _ => m.states.length - (intOf iv).toNat)
  case atStart => exact ⟨0, _, by omega, rfl, HW0.out, HX2.out, HD0.out, b2⟩
  case round =>
    obtain ⟨k, ws, hk, rfl, hW, hX, hD, bel⟩ := hrel
    by_cases hlt : k < m.states.length
    · have hSr := HS.out.below bel (Nat.le_refl _)
      have d0 := hSr.c0 k hlt
      obtain ⟨A', c', d1', hA'⟩ := HS.out.c1 k hlt
      have d1 := cell_keep bel (Nat.le_refl _) d1'
      have hto := HTO.out k hlt
      have hval := (HV.out.st _ (List.getElem_mem hlt)).2
      have hsl := HAL.out _ (List.getElem_mem hlt)
      generalize m.states[k] = s at *
      have HA := Lib.hid hA'; have HTK := Lib.hid hto; have HVL := Lib.hid hval
      have rdA := hA'.rdy
      have lA := World.block_lt_of_cell? _ _ d0
      have BS : Below wr.heap.size wr (wr.alloc (.cells #[.int .i64 s.final, .slice A' s.arcs.length c'] 76)) := (by repeat' (first | exact Below.refl _ _ | assumption | refine Below.drew ?_ | refine Below.alloc ?_ (by first | omega | (simp; done) | (simp; omega)) _ | refine Below.setCell ?_ (by first | omega | (simp; done) | (simp; omega)) _))
      have HW2 := Lib.hid (hW.step BS); have HX3 := Lib.hid (hX.step BS); have HD2 := Lib.hid hD
      have bel2 := bel.trans (BS.mono bel.size)
      clear hSr hA' d1' hto hval hW hX hD
      go_upto_region 9 with fail
      clear BS d0 d1 lA
      generalize wr.alloc (.cells #[.int .i64 s.final, .slice A' s.arcs.length c'] 76) = w3 at *
      go_loopw [36] (fun iv wi => ∃ (t : Nat) (ws : List Int), t ≤ s.arcs.length ∧ iv = .int .i64 t ∧ Blk wi w1.heap.size (intsA ws) 3 ∧ Blk wi w.heap.size #[.int .i64 st, .slice A m.states.length c] 41 ∧ DegOk m k ((tos m k).take t) ws ∧ Below w.heap.size w wi) (fun iv _ => s.arcs.length - (intOf iv).toNat)
      case atStart => exact ⟨0, _, by omega, rfl, HW2.out, HX3.out, by simpa using HD2.out, bel2⟩
      case round =>
        obtain ⟨t, ws, ht, rfl, hW, hX, hD, bel⟩ := hrel
        by_cases hlt2 : t < s.arcs.length
        · have hAr := HA.out.below bel (Nat.le_refl _)
          have d0 := hAr.c0 t hlt2; have d1 := hAr.c1 t hlt2; have d2 := hAr.c2 t hlt2; have d3 := hAr.c3 t hlt2
          have hva := HVL.out _ (List.getElem_mem hlt2)
          have htk : (tos m k).take (t + 1) = (tos m k).take t ++ [s.arcs[t].to.toNat] := by
            rw [HTK.out, List.take_succ_eq_append_getElem (by simpa using hlt2)]; simp
          generalize s.arcs[t] = a at *
          obtain ⟨tn, htn⟩ : ∃ tn : Nat, a.to = tn := ⟨a.to.toNat, by have := hva.t0; omega⟩
          have htn2 : tn < m.states.length := by have := hva.t1; omega
          rw [htn, Int.toNat_natCast] at htk
          have hd2 := hD.tell htn2
          rw [← htk] at hd2
          have hb : (ws.getD tn 0) ≤ 100000 ∧ 0 ≤ ws.getD tn 0 := by
            rw [hD.2 tn htn2]
            have h1 := degU_le HT4.out k tn
            have h2 := List.count_le_length (a := tn) (l := (tos m k).take t)
            have h3 := HT4.out k
            have h4 : ((tos m k).take t).length ≤ (tos m k).length := by simp; omega
            omega
          have hwl : ws.length = m.states.length := hD.1
          have kw := hW.cell tn
          rw [intsA_get _ _ (by omega)] at kw
          have fw := hW.froz; have lw := hW.lt
          have h5 := hW.put tn (.int .i64 (ws.getD tn 0 + 1))
          rw [intsA_set] at h5
          have h5 := h5.alloc (.cells #[.int .i64 a.inn, .int .i64 a.out, .int .i64 a.wt, .int .i64 tn] 78)
          have h6 := (hX.far (a := ⟨w1.heap.size, tn, none⟩) (by simp; omega) (.int .i64 (ws.getD tn 0 + 1))).alloc (.cells #[.int .i64 a.inn, .int .i64 a.out, .int .i64 a.wt, .int .i64 tn] 78)
          have b5 : Below w.heap.size w ((wr.setCell ⟨w1.heap.size, tn, none⟩ (.int .i64 (ws.getD tn 0 + 1))).alloc (.cells #[.int .i64 a.inn, .int .i64 a.out, .int .i64 a.wt, .int .i64 tn] 78)) := (bel.setCell (by simp; omega) _).alloc (by simp [World.setCell]; exact bel.size) _
          have H5 := Lib.hid h5; have H6 := Lib.hid h6; have HD5 := Lib.hid hd2; have B5 := Lib.hid b5
          rw [htn] at d3
          have lA := World.block_lt_of_cell? _ _ d0
          generalize ws.getD tn 0 = x at *
          have hwr : IntKind.i64.wrap (x + 1) = x + 1 := IntWalk.i64_in _ (by omega)
          have i0 : (0 : Int) ≤ ↑tn := by omega
          have i1 : (tn : Int) < (m.states.length : Int) := by omega
          clear hAr hva htk hd2 h5 h6 b5 htn hD hW hX
          go_wp2_with fail
          go_roundw
          case rel => exact ⟨t + 1, _, by omega, by go_num, H5.out, H6.out, HD5.out, B5.out⟩
          case measure => simp [intOf]; omega
        · have hte : (tos m k).take t = tos m k := List.take_of_length_le (by rw [HTK.out]; simp; omega)
          rw [hte] at hD
          have HD5 := Lib.hid hD.next; have H5 := Lib.hid hW; have H6 := Lib.hid hX
          clear hD hW hX hte
          go_wp2_with fail
          go_roundw
          case rel => exact ⟨k + 1, _, by omega, by go_num, H5.out, H6.out, HD5.out, bel⟩
          case measure => simp [intOf]; omega
    · obtain rfl : k = m.states.length := by omega
      have hwl : ws.length = m.states.length := hD.1
      have HI := Lib.hid (OInv.init hD)
      have hW2 := hW.alloc (.cells #[.slice none 0 0] 189)
      have hX2 := hX.alloc (.cells #[.slice none 0 0] 189)
      have b5 := bel.alloc bel.size (.cells #[.slice none 0 0] 189)
      have OS0 : OS w st A m.states.length c w1.heap.size wr.heap.size (wr.alloc (.cells #[.slice none 0 0] 189)) ws [] none (.slice none 0 0) [] :=
        ⟨hX2, hW2, ⟨⟨none, 0, Blk.new _ _ _, World.ownsRow_nil _ _ _ _, rfl⟩, fun k hk => by simp at hk, by simp⟩, World.ownsRow_nil _ _ _ _, fun k hk => by simp [Value.ownBlock] at hk, b5, by omega, hW.lt⟩
      have HOS := Lib.hid OS0
      have HD := Lib.hid hD
      clear hW2 hX2 b5 OS0 hD hW hX
      go_upto_region 16 with fail
      generalize wr.alloc (.cells #[.slice none 0 0] 189) = w4 at *
      generalize wr.heap.size = R at *
      go_loopw [51] (fun iv wx => ∃ (k : Nat) (l : List Nat) (r : Option Nat), k ≤ m.states.length ∧ iv = .int .i64 k ∧ l.Perm (zeros ws k) ∧ OS w st A m.states.length c w1.heap.size R wx ws l r (.slice none 0 0) []) (fun iv _ => m.states.length - (intOf iv).toNat)
      case atStart => exact ⟨0, _, _, by omega, rfl, by simp [zeros], HOS.out⟩
      case round =>
        obtain ⟨k, l, r, hk, rfl, hp, hO⟩ := hrel
        have hzl : (zeros ws k).length ≤ k := by unfold zeros; have := List.length_filter_le (fun q => ws.getD q 0 == 0) (List.range k); simpa using this
        have hll := hp.length_eq
        by_cases hlt : k < m.states.length
        · have kw := hO.wb.cell k
          rw [intsA_get _ _ (by omega)] at kw
          have lw := hO.wb.lt
          have hzs := zeros_succ ws k
          have HH := Lib.hid hO.hp
          have HO := Lib.hid hO; have HP := Lib.hid hp
          have i0 : (0 : Int) ≤ ↑k := by omega
          have i1 : (k : Int) < (m.states.length : Int) := by omega
          clear hO hp
          generalize ws.getD k 0 = x at *
          by_cases hx : x = 0
          · have e1 : (x == 0) = true := by simp [hx]
            have HZ := Lib.hid (hzs.trans (if_pos hx))
            clear hx hzs
            go_wp2_with fail
            refine (lpush_any HH.out (by omega) k).mono ?_
            rintro e w5 ⟨rfl, l', r', hp', hH', hF', hr'⟩
            have HO5 := Lib.hid (HO.out.heap hH' hF' hr')
            have HP5 : Hid (l'.Perm (zeros ws (k + 1))) := Lib.hid (by rw [HZ.out]; exact hp'.trans (HP.out.append_right [k]))
            clear hp' hH' hF' hr' kw
            go_wp2_with fail
            go_roundw
            case rel => exact ⟨k + 1, l', r', by omega, by go_num, HP5.out, HO5.out⟩
            case measure => simp [intOf]; omega
          · have e1 : (x == 0) = false := by simpa using hx
            have HZ := Lib.hid (hzs.trans (if_neg hx))
            clear hx hzs
            go_wp2_with fail
            go_roundw
            case rel => exact ⟨k + 1, l, r, by omega, by go_num, by rw [HZ.out]; exact HP.out, HO.out⟩
            case measure => simp [intOf]; omega
        · obtain rfl : k = m.states.length := by omega
          have HI2 := Lib.hid (HI.out.perm hp)
          have HO := Lib.hid hO
          clear hO hp hll hzl
          go_wp2_with fail
          go_loopg [13] (m.states.length) (fun g ovx wx => ∃ (ov : Value) (out : List Nat) (ws : List Int) (l : List Nat) (r : Option Nat), ovx = ov ∧ m.states.length - out.length = g ∧ OS w st A m.states.length c w1.heap.size R wx ws l r ov out ∧ OInv m out l ws [])
          case atStart => exact ⟨_, [], _, _, _, rfl, by simp, HO.out, HI2.out⟩
          case round =>
            obtain ⟨ov, out, ws, l, r, rfl, hg, hO, hI⟩ := hrel
            have hle := hI.le
            have HO2 := Lib.hid hO; have HI3 := Lib.hid hI; have HG := Lib.hid hg
            obtain ⟨Aq, cq, hBq, hOq, hrq⟩ := hO.hp.q
            have kq := hBq.cell; have lq := hBq.lt
            have HH := Lib.hid hO.hp
            have kmb := hO.mb.cell; have lmb := hO.mb.lt
            obtain ⟨Ao, co, rfl, -⟩ := own_form hO.ow
            clear hI hg hBq hOq hrq
            rcases l with _ | ⟨x0, l0⟩
            · have lz : (([] : List Nat).length) = 0 := rfl
              rw [lz] at kq
              by_cases hfull : out.length < m.states.length
              · have HSK := Lib.hid (HI3.out.stuck hfull)
                have g1 : (out.length : Int) < (m.states.length : Int) := by omega
                go_wp2_with fail
                go_ret2
                exact ⟨.inr ⟨rfl, _, HSK.out⟩, HO2.out.bel⟩
              · have hfe : out.length = m.states.length := by omega
                have HTP := Lib.hid (HI3.out.topo hfe)
                have g1 : ¬ (out.length : Int) < (m.states.length : Int) := by omega
                have hz := HO2.out.h1; have hz2 := HO2.out.h2
                clear hfe
                go_wp2_with fail
                go_ret2
                exact ⟨.inl ⟨_, rfl, out, HTP.out, own_mono HO2.out.ow (by omega)⟩, HO2.out.bel⟩
            · have hlp : (x0 :: l0).length = l0.length + 1 := rfl
              rw [hlp] at kq
              go_wp2_with fail
              refine (lpop_any HH.out (by omega) (by simp)).mono ?_
              rintro e w5 ⟨q, l', r', rfl, hp, hmin, hH5, hF5, hr5⟩
              have HO5 := Lib.hid (HO2.out.heap hH5 hF5 hr5)
              have hI5 := HI3.out.perm hp
              have hql := hI5.lt q (by simp)
              have HI5 := Lib.hid hI5.pop
              have hle5 := hI5.le
              have hOW5 := Lib.hid HO5.out.ow
              have hR5 := HO5.out.hp.hb
              unfold lowI
              clear hH5 hF5 hr5 hmin hp kq lq hI5 HH kmb lmb hO
              go_upto_region 25 with (at_builtin; refine wpList_app1 rfl _ _ rfl eltIntO R (.slice Ao out.length co) out.length _ rfl w5 hOW5.out #[.int .i64 q] rfl w5.heap.size rfl rfl rfl (by simp [Value.oneCell']) (by omega) (by omega) hR5 ?_; intro g cap w6 hown1 hg1 hat hlt1)
              have HO6 := Lib.hid (HO5.out.app q rfl hg1 (by simpa using hown1) (fun x hx => by
                simp only [Value.ownBlock, Option.some.injEq] at hx
                subst hx
                exact hat.imp id (fun h => by omega)))
              have hSr := HS.out.below HO6.out.bel (Nat.le_refl _)
              have d0 := hSr.c0 q hql
              obtain ⟨A', c', d1', hA'⟩ := HS.out.c1 q hql
              have d1 := cell_keep HO6.out.bel (Nat.le_refl _) d1'
              have hto := HTO.out q hql
              have hval := (HV.out.st _ (List.getElem_mem hql)).2
              have hsl := HAL.out _ (List.getElem_mem hql)
              generalize m.states[q] = s at *
              have HA := Lib.hid hA'; have HTK := Lib.hid hto; have HVL := Lib.hid hval
              have rdA := hA'.rdy
              have kmb := HO6.out.mb.cell; have lmb := HO6.out.mb.lt
              have lA := World.block_lt_of_cell? _ _ d0
              have i0 : (0 : Int) ≤ ↑q := by omega
              have i1 : (q : Int) < (m.states.length : Int) := by omega
              have HI6 : Hid (OInv m (out ++ [q]) l' ws ((tos m q).drop 0)) := Lib.hid (by simpa using HI5.out)
              have HPT : Hid (m.states.length - (out ++ [q]).length + 1 = gk) := Lib.hid (by have := HG.out; simp; simp at hle5; omega)
              clear hSr hA' d1' hto hval hown1 hg1 hat hlt1 HI5 HO5 hOW5
              go_upto_region 26 with fail
              clear kmb lmb d0 d1 lA
              go_loopw [80] (fun iv wx => ∃ (t : Nat) (ws : List Int) (l : List Nat) (r : Option Nat), t ≤ s.arcs.length ∧ iv = .int .i64 t ∧ OS w st A m.states.length c w1.heap.size R wx ws l r (.slice (some ⟨g, 0, none⟩) (out.length + 1) cap) (out ++ [q]) ∧ OInv m (out ++ [q]) l ws ((tos m q).drop t)) (fun iv _ => s.arcs.length - (intOf iv).toNat)
              case atStart => exact ⟨0, _, _, _, by omega, rfl, HO6.out, HI6.out⟩
              case round =>
                obtain ⟨t, ws, l, r, ht, rfl, hO, hI⟩ := hrel
                by_cases hlt2 : t < s.arcs.length
                · have hAr := HA.out.below hO.bel (Nat.le_refl _)
                  have d0 := hAr.c0 t hlt2; have d1 := hAr.c1 t hlt2; have d2 := hAr.c2 t hlt2; have d3 := hAr.c3 t hlt2
                  have hva := HVL.out _ (List.getElem_mem hlt2)
                  have htk : (tos m q).drop t = s.arcs[t].to.toNat :: (tos m q).drop (t + 1) := by
                    rw [HTK.out, List.drop_eq_getElem_cons (by simpa using hlt2)]; simp
                  generalize s.arcs[t] = a at *
                  obtain ⟨tn, htn⟩ : ∃ tn : Nat, a.to = tn := ⟨a.to.toNat, by have := hva.t0; omega⟩
                  have htn2 : tn < m.states.length := by have := hva.t1; omega
                  rw [htn, Int.toNat_natCast] at htk
                  rw [htk] at hI
                  have hle2 := hI.le
                  have hb : (ws.getD tn 0) ≤ 100000 ∧ 0 ≤ ws.getD tn 0 := by
                    rw [hI.w tn htn2]
                    have h1 := dsum_le HT4.out (out ++ [q]) tn
                    have h2 := List.count_le_length (a := tn) (l := tn :: (tos m q).drop (t + 1))
                    have h3 := HT4.out q
                    have h4 : (tn :: (tos m q).drop (t + 1)).length ≤ (tos m q).length := by rw [← htk]; simp
                    omega
                  have hwl : ws.length = m.states.length := hI.len
                  have kw := hO.wb.cell tn
                  rw [intsA_get _ _ (by omega)] at kw
                  have fw := hO.wb.froz; have lw := hO.wb.lt
                  have hO5 := (hO.setW tn (ws.getD tn 0 - 1)).keep (W' := (wr.setCell ⟨w1.heap.size, tn, none⟩ (.int .i64 (ws.getD tn 0 - 1))).alloc (.cells #[.int .i64 a.inn, .int .i64 a.out, .int .i64 a.wt, .int .i64 tn] 78)) ((Below.refl _ _).alloc (Nat.le_refl _) _)
                  have HO7 := Lib.hid hO5
                  have kw2 := hO5.wb.cell tn
                  rw [intsA_get _ _ (by rw [List.length_set]; omega), getD_set _ _ _ (by omega), if_pos rfl] at kw2
                  have lw2 := hO5.wb.lt
                  have BA : Blk ((wr.setCell ⟨w1.heap.size, tn, none⟩ (.int .i64 (ws.getD tn 0 - 1))).alloc (.cells #[.int .i64 a.inn, .int .i64 a.out, .int .i64 a.wt, .int .i64 tn] 78)) wr.heap.size #[.int .i64 a.inn, .int .i64 a.out, .int .i64 a.wt, .int .i64 tn] 78 := Blk.new' (by simp [World.setCell])
                  rw [htn] at d3
                  have lA := World.block_lt_of_cell? _ _ d0
                  have HTELL := Lib.hid (hI.tell htn2); have HTELL0 := Lib.hid (hI.tell0 htn2)
                  generalize hxx : ws.getD tn 0 = x at *
                  have HXX := Lib.hid hxx; clear hxx
                  have hwr : IntKind.i64.wrap (x - 1) = x - 1 := IntWalk.i64_in _ (by omega)
                  have i0 : (0 : Int) ≤ ↑tn := by omega
                  have i1 : (tn : Int) < (m.states.length : Int) := by omega
                  clear hAr hva htk htn hO hI hO5
                  go_upto_region 29 with fail
                  clear kw fw lw d0 d1 d2 d3 lA
                  generalize (wr.setCell ⟨w1.heap.size, tn, none⟩ (.int .i64 (x - 1))).alloc (.cells #[.int .i64 a.inn, .int .i64 a.out, .int .i64 a.wt, .int .i64 tn] 78) = w7 at *
                  have kA := BA.cell; have lAb := BA.lt
                  have HH7 := Lib.hid HO7.out.hp
                  have hl1 : l.length + 1 ≤ 1000000 := by omega
                  by_cases hz : x - 1 = 0
                  · have e1 : (x - 1 == 0) = true := by simp [hz]
                    have HI8 := Lib.hid (HTELL0.out hz)
                    clear hz
                    go_wp2_with fail
                    refine (lpush_any HH7.out hl1 tn).mono ?_
                    rintro e w8 ⟨rfl, l8, r8, hp8, hH8, hF8, hr8⟩
                    have HO8 := Lib.hid (HO7.out.heap hH8 hF8 hr8)
                    have HI9 := Lib.hid (HI8.out.perm hp8)
                    clear hp8 hH8 hF8 hr8 kA kw2
                    go_wp2_with fail
                    go_roundw
                    case rel => exact ⟨t + 1, _, l8, r8, by omega, by go_num, HO8.out, HI9.out⟩
                    case measure => simp [intOf]; omega
                  · have e1 : (x - 1 == 0) = false := by simpa using hz
                    have HI8 := Lib.hid (HTELL.out hz)
                    clear hz
                    go_wp2_with fail
                    go_roundw
                    case rel => exact ⟨t + 1, _, l, r, by omega, by go_num, HO7.out, HI8.out⟩
                    case measure => simp [intOf]; omega
                · have hte : (tos m q).drop t = [] := List.drop_of_length_le (by rw [HTK.out]; simp; omega)
                  rw [hte] at hI
                  have HO9 := Lib.hid hO; have HI9 := Lib.hid hI
                  clear hO hI hte
                  go_wp2_with fail
                  go_roundg (m.states.length - (out ++ [q]).length)
                  case measure => have := HPT.out; omega
                  case rel => exact ⟨_, out ++ [q], ws, l, r, rfl, rfl, by simpa using HO9.out, HI9.out⟩
end Go.Proofs.YtkmnacchiagipaaDoor
