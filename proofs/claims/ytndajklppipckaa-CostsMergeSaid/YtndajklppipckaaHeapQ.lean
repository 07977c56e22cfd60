/- A heap in a box: what it holds, what keeps it. -/
import Derived.Test.YtndajklppipckaaHeap2
import Derived.Test.YtndajklppipckaaHeapM
import Derived.Test.YtndajklppipckaaBlk
import Derived.Test.YtndajklppipckaaMem
import Derived.WalkSmall
namespace Go.Proofs.Ytndajklppipckaa
open Go.RowKit

theorem row_ne_blk {w : World} {base : Nat} {e : TypeId} {size n : Nat} {v : Value} {xs : List Value} (h : w.ownsRow base e size v n xs) {b : Nat} {cs : Array Value} {t : TypeId} (hb : Blk w b cs t) (hne : e ≠ t) : v.ownBlock ≠ some b := by
  intro hh
  rcases h.2 with ⟨hv, _⟩ | ⟨g, cap, cur, hv, _, hg, _⟩
  · rw [hv] at hh; simp [Value.ownBlock] at hh
  · rw [hv] at hh; simp [Value.ownBlock] at hh
    subst hh
    unfold Blk at hb
    rw [hg] at hb
    simp at hb
    exact hne hb.2
section
variable {α : Type}
/-- box b holds a slice of the call's own whose elements are l; all else of W0 is as it was, but for row R0 -/
structure QSt (cs : α → List Value) (size : Nat) (qt e : TypeId) (base b : Nat) (W0 : World) (R0 : Option Nat) (W : World) (l : List α) : Prop where
  q : ∃ A c, Blk W b #[.slice A l.length c] qt ∧ W.ownsRow base e size (.slice A l.length c) l.length (l.flatMap cs) ∧ (∀ k, (Value.slice A l.length c).ownBlock = some k → R0 = some k ∨ W0.heap.size ≤ k)
  os : W.os = W0.os
  tape : W.tape = W0.tape
  output : W.output = W0.output
  size : W0.heap.size ≤ W.heap.size
  block : ∀ k, k < W0.heap.size → k ≠ b → R0 ≠ some k → W.heap[k]? = W0.heap[k]?
  bb : b < W0.heap.size
  hne : e ≠ qt
  hb : base ≤ W0.heap.size

variable {cs : α → List Value} {size : Nat} {qt e : TypeId} {base b : Nat} {W0 W W' : World} {R0 : Option Nat} {l : List α}
theorem QSt.start {A : Option Addr} {c : Nat} (h1 : Blk W b #[.slice A l.length c] qt) (h2 : W.ownsRow base e size (.slice A l.length c) l.length (l.flatMap cs)) (hne : e ≠ qt) (hb : base ≤ W.heap.size) :
    QSt cs size qt e base b W (Value.slice A l.length c).ownBlock W l := ⟨⟨A, c, h1, h2, fun _ hk => .inl hk⟩, rfl, rfl, rfl, Nat.le_refl _, fun _ _ _ _ => rfl, h1.lt, hne, hb⟩
theorem QSt.keep (h : QSt cs size qt e base b W0 R0 W l) (hb : Below W.heap.size W W') : QSt cs size qt e base b W0 R0 W' l := by
  obtain ⟨A, c, h1, h2, h3⟩ := h.q
  exact ⟨⟨A, c, h1.step hb, own_below h2 hb (Nat.le_refl _), h3⟩, hb.os.trans h.os, hb.tape.trans h.tape, hb.output.trans h.output, Nat.le_trans h.size hb.size,
    fun k hk hne hr => (hb.block k (Nat.lt_of_lt_of_le hk h.size)).trans (h.block k hk hne hr), h.bb, h.hne, h.hb⟩
/-- the row becomes another one -/
theorem QSt.row (h : QSt cs size qt e base b W0 R0 W l) {A : Option Addr} {c : Nat} (h1 : Blk W b #[.slice A l.length c] qt) (hg : W.grownBy W' (Value.slice A l.length c).ownBlock)
    {l' : List α} {c' : Nat} {A' : Option Addr} {n' : Nat} (hn : n' = l'.length) (h2 : W'.ownsRow base e size (.slice A' n' c') n' (l'.flatMap cs)) (hr : ∀ k, (Value.slice A' n' c').ownBlock = some k → (Value.slice A l.length c).ownBlock = some k ∨ W.heap.size ≤ k) :
    QSt cs size qt e base b W0 R0 (W'.setCell ⟨b, 0, none⟩ (.slice A' n' c')) l' := by
  subst hn
  obtain ⟨A1, c1, k1, k2, k3⟩ := h.q
  obtain ⟨rfl, rfl⟩ : A = A1 ∧ c = c1 := by
    have := k1.symm.trans h1
    simp at this
    exact ⟨this.1.symm, this.2.symm⟩
  have hbl : b < W.heap.size := h1.lt
  have hne : some b ≠ (Value.slice A l.length c).ownBlock := (row_ne_blk k2 h1 h.hne).symm
  have hne' : some b ≠ (Value.slice A' l'.length c').ownBlock := fun hh => by
    rcases hr b hh.symm with h4 | h4
    · exact hne h4.symm
    · omega
  refine ⟨⟨A', c', ((h1.grown hg hne).put 0 _).eq (by simp), own_setCell h2 (fun hh => hne' hh.symm) _, fun k hk => ?_⟩, hg.os.trans h.os, hg.tape.trans h.tape, hg.output.trans h.output, ?_, fun k hk hb hr0 => ?_, h.bb, h.hne, h.hb⟩
  · rcases hr k hk with h4 | h4
    · exact k3 k h4
    · right; have := h.size; omega
  · simp [World.setCell]; have := h.size; have := hg.size; omega
  · rw [Below.heap_setCell _ _ _ _ hb, hg.block k (Nat.lt_of_lt_of_le hk h.size) (fun hh => by
      rcases k3 k hh.symm with h4 | h4
      · exact hr0 h4
      · omega)]
    exact h.block k hk hb hr0
/-- the row's cells become others -/
theorem QSt.cells (h : QSt cs size qt e base b W0 R0 W l) {A : Option Addr} {c : Nat} (h1 : Blk W b #[.slice A l.length c] qt) (hg : W.grownBy W' (Value.slice A l.length c).ownBlock)
    {l' : List α} (hn : l.length = l'.length) (h2 : W'.ownsRow base e size (.slice A l.length c) l.length (l'.flatMap cs)) :
    QSt cs size qt e base b W0 R0 W' l' := by
  obtain ⟨A1, c1, k1, k2, k3⟩ := h.q
  obtain ⟨rfl, rfl⟩ : A = A1 ∧ c = c1 := by
    have := k1.symm.trans h1
    simp at this
    exact ⟨this.1.symm, this.2.symm⟩
  have hbl : b < W.heap.size := h1.lt
  have hne : some b ≠ (Value.slice A l.length c).ownBlock := (row_ne_blk k2 h1 h.hne).symm
  rw [hn] at h2 h1 hg k3 hne
  refine ⟨⟨A, c, h1.grown hg hne, h2, k3⟩, hg.os.trans h.os, hg.tape.trans h.tape, hg.output.trans h.output, Nat.le_trans h.size hg.size, fun k hk hb hr0 => ?_, h.bb, h.hne, h.hb⟩
  rw [hg.block k (Nat.lt_of_lt_of_le hk h.size) (fun hh => by
      rcases k3 k hh.symm with h4 | h4
      · exact hr0 h4
      · omega)]
  exact h.block k hk hb hr0
/-- a row that is not empty begins at the begin of its block -/
theorem QSt.addr (h : QSt cs size qt e base b W0 R0 W l) (h0 : 0 < l.length) : ∃ g c, Blk W b #[.slice (some ⟨g, 0, none⟩) l.length c] qt ∧ W.ownsRow base e size (.slice (some ⟨g, 0, none⟩) l.length c) l.length (l.flatMap cs) ∧ g < W.heap.size ∧ b ≠ g ∧ l.length ≤ c ∧ c ≤ maxLen := by
  obtain ⟨A, c, h1, h2, -⟩ := h.q
  rcases h2.2 with ⟨_, hn⟩ | ⟨g, cap, cur, hv, hbg, hg, hnc, hcm, hs, ht⟩
  · omega
  · simp at hv
    obtain ⟨rfl, rfl⟩ := hv
    exact ⟨g, c, h1, h2, (Array.getElem?_eq_some_iff.1 hg).1, fun e => row_ne_blk h2 h1 h.hne (by rw [e]; rfl), hnc, hcm⟩
end
end Go.Proofs.Ytndajklppipckaa
