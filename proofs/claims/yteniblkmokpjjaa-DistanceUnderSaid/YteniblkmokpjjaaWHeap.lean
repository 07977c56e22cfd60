/- weigh.queue is a heap. -/
import Derived.Test.YteniblkmokpjjaaWQueue
namespace Go.Proofs.Yteniblkmokpjjaa
open Go.RowKit
set_option maxRecDepth 100000
theorem enterF (f : FuncId) (h : ∀ (x : Array Value) (W : World), (callFunc f x).run Try.prog W = .ok (.enter f x) W) : ∀ (x : Array Value) (W : World), (callFunc f x).run Try.prog W = .ok (.enter f x) W := h
theorem wq_heap (base b : Nat) (W0 : World) (R0 : Option Nat) : HeapI 180 (.pointer (some ⟨b, 0, none⟩)) itemI (fun x y => decide (x.cost < y.cost)) (WQ base b W0 R0) := by
  have hld : ∀ (W : World) (A : Option Addr) (n c : Nat), Blk W b #[.slice A n c] 179 → (loadVar 179 ⟨b, 0, none⟩).run Try.prog W = .ok (.slice A n c) W := fun W A n c h => by
    have := h.cell 0
    simp [loadVar, go_sem, this]
  constructor
  · refine ⟨128, fun x W => by simp [go_sem], fun W l hS => ?_⟩
    obtain ⟨A, c, hB, hO, -⟩ := hS.q
    exact ⟨_, method_val (P := Try.prog) (by kernel_rfl) Try.underlying180 _ (hld _ _ _ _ hB), (wq_len A l.length c W).mono (by rintro e w' ⟨rfl, rfl⟩; exact ⟨rfl, hS⟩)⟩
  · refine ⟨129, fun x W => by simp [go_sem], fun W l hS i j x y hx hy hi hj => ?_⟩
    obtain ⟨g, c, hB, hO, -⟩ := hS.addr (by omega)
    subst hx; subst hy
    exact ⟨_, method_val (P := Try.prog) (by kernel_rfl) Try.underlying180 _ (hld _ _ _ _ hB), wq_less base b W0 W R0 l hS g c hO i j hi hj⟩
  · refine ⟨130, fun x W => by simp [go_sem], fun W l hS i j x y hx hy hi hj => ?_⟩
    obtain ⟨g, c, hB, hO, hg, -⟩ := hS.addr (by omega)
    subst hx; subst hy
    exact ⟨_, method_val (P := Try.prog) (by kernel_rfl) Try.underlying180 _ (hld _ _ _ _ hB), wq_swap base b W0 W R0 l hS g c hB hO hg i j hi hj⟩
  · refine ⟨132, fun x W => by simp [go_sem], fun W l hS hl x => ?_⟩
    exact ⟨_, method_ptr (P := Try.prog) (by kernel_rfl) Try.underlying180 _, wq_push base b W0 W R0 l x hS hl⟩
  · refine ⟨131, fun x W => by simp [go_sem], fun W l x hS hl => ?_⟩
    exact ⟨_, method_ptr (P := Try.prog) (by kernel_rfl) Try.underlying180 _, wq_pop base b W0 W R0 l x hS hl⟩

/-- the heap in box b, its row in block r -/
structure WHeap (base b : Nat) (r : Option Nat) (W : World) (l : List ItemL) : Prop where
  q : ∃ A c, Blk W b #[.slice A l.length c] 179 ∧ W.ownsRow base 177 4 (.slice A l.length c) l.length (l.flatMap itemCells) ∧ (Value.slice A l.length c).ownBlock = r
  heap : Heap ItemL.cost l l.length
  hb : base ≤ W.heap.size
/-- what a call on the heap in box b leaves as it was -/
structure WFar (b : Nat) (r : Option Nat) (W W' : World) : Prop where
  os : W'.os = W.os
  tape : W'.tape = W.tape
  output : W'.output = W.output
  size : W.heap.size ≤ W'.heap.size
  block : ∀ k, k < W.heap.size → k ≠ b → r ≠ some k → W'.heap[k]? = W.heap[k]?
theorem WFar.below {B b : Nat} {r : Option Nat} {W W' : World} (h : WFar b r W W') (hB : B ≤ b) (hr : ∀ k, r = some k → B ≤ k) (hs : B ≤ W.heap.size) : Below B W W' :=
  ⟨h.os, h.tape, h.output, h.size, fun k hk => h.block k (by omega) (by omega) (fun e => by have := hr k e; omega)⟩
theorem WFar.blk {b k : Nat} {r : Option Nat} {W W' : World} (h : WFar b r W W') {cs : Array Value} {t : TypeId} (hB : Blk W k cs t) (h1 : k ≠ b) (h2 : r ≠ some k) : Blk W' k cs t := hB.kept (h.block k hB.lt h1 h2)
section
variable {base b : Nat} {r : Option Nat} {W W' : World} {l : List ItemL}
theorem WHeap.keep (h : WHeap base b r W l) (hb : Below W.heap.size W W') : WHeap base b r W' l := by
  obtain ⟨A, c, h1, h2, h3⟩ := h.q
  exact ⟨⟨A, c, h1.step hb, own_below h2 hb (Nat.le_refl _), h3⟩, h.heap, Nat.le_trans h.hb hb.size⟩
theorem WHeap.row (h : WHeap base b r W l) : ∀ k, r = some k → base ≤ k ∧ k < W.heap.size := by
  obtain ⟨A, c, h1, h2, h3⟩ := h.q
  intro k hk
  exact h2.lt k (h3.trans hk)
theorem WHeap.far (h : WHeap base b r W l) {m : Option Nat} (hg : W.grownBy W' m) (h1 : m ≠ some b) (h2 : r = none ∨ r ≠ m) : WHeap base b r W' l := by
  obtain ⟨A, c, k1, k2, k3⟩ := h.q
  exact ⟨⟨A, c, k1.grown hg h1.symm, k2.kept hg (by rw [k3]; exact h2), k3⟩, h.heap, Nat.le_trans h.hb hg.size⟩
theorem WHeap.toQ (h : WHeap base b r W l) : WQ base b W r W l := by
  obtain ⟨A, c, k1, k2, rfl⟩ := h.q
  exact QSt.start k1 k2 (by decide) h.hb
theorem WHeap.ofQ {W0 : World} {r0 : Option Nat} (h : WQ base b W0 r0 W l) (hh : Heap ItemL.cost l l.length) : ∃ r, WHeap base b r W l ∧ WFar b r0 W0 W ∧ ∀ g, r = some g → r0 = some g ∨ W0.heap.size ≤ g := by
  obtain ⟨A, c, k1, k2, k3⟩ := h.q
  exact ⟨_, ⟨⟨A, c, k1, k2, rfl⟩, hh, Nat.le_trans h.hb h.size⟩, ⟨h.os, h.tape, h.output, h.size, h.block⟩, k3⟩
end
theorem costLt (x y : ItemL) : (fun x y : ItemL => decide (x.cost < y.cost)) x y = decide (x.cost < y.cost) := rfl
theorem wpush_any {base b : Nat} {r : Option Nat} {W : World} {l : List ItemL} (h : WHeap base b r W l) (hl : l.length + 1 ≤ 1000000) (x : ItemL) :
    Calls Try.prog 48 #[.iface 180 (.pointer (some ⟨b, 0, none⟩)), itemI x] W fun e w' => e = .returned (.tuple #[]) ∧ ∃ l' r', l'.Perm (l ++ [x]) ∧ WHeap base b r' w' l' ∧ WFar b r W w' ∧ ∀ g, r' = some g → r = some g ∨ W.heap.size ≤ g :=
  (push_any (wq_heap base b W r) costLt W l x h.toQ hl h.heap).mono (by
    rintro e w' ⟨rfl, l', hq, hp, hh⟩
    obtain ⟨r', h1, h2, h3⟩ := WHeap.ofQ hq hh
    exact ⟨rfl, l', r', hp, h1, h2, h3⟩)
theorem wpop_any {base b : Nat} {r : Option Nat} {W : World} {l : List ItemL} (h : WHeap base b r W l) (hl : l.length ≤ 1000000) (h0 : 0 < l.length) :
    Calls Try.prog 47 #[.iface 180 (.pointer (some ⟨b, 0, none⟩))] W fun e w' => ∃ x l' r', e = .returned (itemI x) ∧ (x :: l').Perm l ∧ (∀ y ∈ l', x.cost ≤ y.cost) ∧ WHeap base b r' w' l' ∧ WFar b r W w' ∧ ∀ g, r' = some g → r = some g ∨ W.heap.size ≤ g :=
  (pop_any (wq_heap base b W r) costLt W l h.toQ hl h0 h.heap).mono (by
    rintro e w' ⟨x, l', rfl, hq, hp, hh, hm⟩
    obtain ⟨r', h1, h2, h3⟩ := WHeap.ofQ hq hh
    exact ⟨x, l', r', rfl, hp, hm, h1, h2, h3⟩)
end Go.Proofs.Yteniblkmokpjjaa
