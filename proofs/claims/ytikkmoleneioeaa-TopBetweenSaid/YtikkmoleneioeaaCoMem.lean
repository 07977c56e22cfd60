/- compose.Compose's memory. -/
import Derived.Test.YtikkmoleneioeaaExpand
namespace Go.Proofs.Ytikkmoleneioeaa
open Go.RowKit

def triC (t : TriL) : List Value := [.int .i64 t.a, .int .i64 t.b, .int .i64 t.f]
theorem eltTri : Elt Try.prog 85 83 (.agg #[.int .i64 0, .int .i64 0, .int .i64 0]) 3 24 := ⟨Try.underlying85, by kernel_rfl, rfl, by omega⟩
theorem row_ne_map {w : World} {base : Nat} {e : TypeId} {size n : Nat} {v : Value} {xs : List Value} (h : w.ownsRow base e size v n xs) {b : Nat} {D : List (TriL × Int)} (hb : MapB w b triV intV D) : v.ownBlock ≠ some b := by
  intro hh
  have h1 := hb.blk
  rcases h.2 with ⟨hv, _⟩ | ⟨g, cap, cur, hv, _, hg, _⟩
  · rw [hv] at hh; simp [Value.ownBlock] at hh
  · rw [hv] at hh; simp [Value.ownBlock] at hh
    subst hh
    rw [hg] at h1
    simp [mapObj] at h1
theorem blk_ne_map {w : World} {k b : Nat} {cs : Array Value} {ty : TypeId} {D : List (TriL × Int)} (h : Blk w k cs ty) (hb : MapB w b triV intV D) : k ≠ b := by
  intro e
  subst e
  have h1 := hb.blk
  unfold Blk at h
  rw [h] at h1
  simp [mapObj] at h1
theorem ne_none {a b : Option Nat} (h : ∀ k, b = some k → a ≠ some k) : a = none ∨ a ≠ b := by
  cases b with
  | none =>
    cases a with
    | none => exact .inl rfl
    | some k => right; simp
  | some k => exact .inr (h k rfl)
/-- boxes, map, rows -/
structure Co (w : World) (p1 : Int) (AA : Option Addr) (n1 ca : Nat) (p2 : Int) (AB : Option Addr) (n2 cb : Nat) (mpb mk : Nat) (W : World) (D : List (TriL × Int)) (tv : Value) (T : List TriL) (sv : Value) (vs : List Value) (S : List StateL) : Prop where
  ma : Blk W w.heap.size #[.int .i64 p1, .slice AA n1 ca] 28
  mb : Blk W (w.heap.size + 1) #[.int .i64 p2, .slice AB n2 cb] 28
  rk : Blk W (w.heap.size + 2) #[.int .i64 0, .slice none 0 0] 28
  mp : MapB W mpb triV intV D
  tr : W.ownsRow w.heap.size 83 3 tv T.length (T.flatMap triC)
  mc : Blk W mk #[.int .i64 0, sv] 28
  own : OwnStV W w.heap.size sv vs S
  bel : Below w.heap.size w W
  g1 : w.heap.size ≤ mpb
  g2 : w.heap.size + 2 < mk
section
variable {w : World} {p1 : Int} {AA : Option Addr} {n1 ca : Nat} {p2 : Int} {AB : Option Addr} {n2 cb : Nat} {mpb mk : Nat} {W W' : World} {D D' : List (TriL × Int)} {tv : Value} {T : List TriL} {sv : Value} {vs : List Value} {S : List StateL}
theorem Co.size (h : Co w p1 AA n1 ca p2 AB n2 cb mpb mk W D tv T sv vs S) : w.heap.size ≤ W.heap.size := h.bel.size
theorem Co.keep (h : Co w p1 AA n1 ca p2 AB n2 cb mpb mk W D tv T sv vs S) (hb : Below W.heap.size W W') : Co w p1 AA n1 ca p2 AB n2 cb mpb mk W' D tv T sv vs S :=
  ⟨h.ma.step hb, h.mb.step hb, h.rk.step hb, h.mp.below hb (Nat.le_refl _), own_below h.tr hb (Nat.le_refl _), h.mc.step hb, h.own.below hb (Nat.le_refl _), h.bel.trans (hb.mono h.bel.size), h.g1, h.g2⟩
/-- block m becomes another one: what is not in it stays -/
theorem OwnStV.grown_at (h : OwnStV W w.heap.size sv vs S) {row : Option Nat} (hg : W.grownBy W' row) (h1 : sv.ownBlock = none ∨ sv.ownBlock ≠ row) (h2 : ∀ i (hi : i < vs.length), vs[i].ownBlock = none ∨ vs[i].ownBlock ≠ row) : OwnStV W' w.heap.size sv vs S :=
  ⟨h.len, h.row.kept hg h1, fun i hi hi' => (h.arcs i hi hi').grown hg (h2 i hi')⟩
theorem Co.map (h : Co w p1 AA n1 ca p2 AB n2 cb mpb mk W D tv T sv vs S) (hm : MapB W' mpb triV intV D') (hg : W.grownBy W' (some mpb)) : Co w p1 AA n1 ca p2 AB n2 cb mpb mk W' D' tv T sv vs S := by
  have hm0 := h.mp
  have bk : ∀ {k : Nat} {cs : Array Value} {ty : TypeId}, Blk W k cs ty → Blk W' k cs ty := fun hb => hb.grown hg (fun e => blk_ne_map hb hm0 (by simpa using e))
  refine ⟨bk h.ma, bk h.mb, bk h.rk, hm, h.tr.kept hg (.inr (row_ne_map h.tr hm0)), bk h.mc, ?_, h.bel.grown hg h.bel.size (fun k hk => by cases hk; exact h.g1), h.g1, h.g2⟩
  exact h.own.grown_at hg (.inr (row_ne_map h.own.row hm0)) (fun i hi => .inr (row_ne_map (h.own.arcs i (by have := h.own.len; omega) hi) hm0))
theorem Co.todo (h : Co w p1 AA n1 ca p2 AB n2 cb mpb mk W D tv T sv vs S) (hg : W.grownBy W' tv.ownBlock) {tv' : Value} {T' : List TriL} (hn : W'.ownsRow w.heap.size 83 3 tv' T'.length (T'.flatMap triC)) : Co w p1 AA n1 ca p2 AB n2 cb mpb mk W' D tv' T' sv vs S := by
  have bk : ∀ {k : Nat} {cs : Array Value} {ty : TypeId}, ty ≠ 83 → Blk W k cs ty → Blk W' k cs ty := fun hty hb => hb.grown hg (fun e => row_ne_blk h.tr hb (fun e2 => hty e2.symm) e.symm)
  have hm : MapB W' mpb triV intV D := h.mp.grown hg (fun e => row_ne_map h.tr h.mp e.symm)
  refine ⟨bk (by decide) h.ma, bk (by decide) h.mb, bk (by decide) h.rk, hm, hn, bk (by decide) h.mc, ?_, below_app h.bel h.tr hg (Nat.le_refl _) h.bel.size, h.g1, h.g2⟩
  exact h.own.grown_at hg (own_ne h.own.row h.tr (by decide)) (fun i hi => own_ne (h.own.arcs i (by have := h.own.len; omega) hi) h.tr (by decide))
theorem Co.arcs (h : Co w p1 AA n1 ca p2 AB n2 cb mpb mk W D tv T sv vs S) {Ba : Nat} {av : Value} {L : List ArcL} (ha : OwnArcs W Ba av L) (hBa : w.heap.size ≤ Ba) (hBW : Ba ≤ W.heap.size) (hvs : ∀ i (hi : i < vs.length) k, vs[i].ownBlock = some k → k < Ba) (hg : W.grownBy W' av.ownBlock) : Co w p1 AA n1 ca p2 AB n2 cb mpb mk W' D tv T sv vs S := by
  have bk : ∀ {k : Nat} {cs : Array Value} {ty : TypeId}, ty ≠ 65 → Blk W k cs ty → Blk W' k cs ty := fun hty hb => hb.grown hg (fun e => row_ne_blk ha hb (fun e2 => hty e2.symm) e.symm)
  have hm : MapB W' mpb triV intV D := h.mp.grown hg (fun e => row_ne_map ha h.mp e.symm)
  refine ⟨bk (by decide) h.ma, bk (by decide) h.mb, bk (by decide) h.rk, hm, h.tr.kept hg (own_ne h.tr ha (by decide)), bk (by decide) h.mc, ?_, below_app h.bel ha hg hBa hBW, h.g1, h.g2⟩
  exact h.own.grown_at hg (own_ne h.own.row ha (by decide)) (fun i hi => ne_none (fun k hk e => by have := hvs i hi k e; have := (ha.lt k hk).1; omega))
/-- a cell of a state's box is set -/
theorem Co.box (h : Co w p1 AA n1 ca p2 AB n2 cb mpb mk W D tv T sv vs S) {xb o : Nat} {cs : Array Value} (hx : Blk W xb cs 59) (hxb : w.heap.size ≤ xb) (hsx : sv.ownBlock ≠ some xb) (u : Value) : Co w p1 AA n1 ca p2 AB n2 cb mpb mk (W.setCell ⟨xb, o, none⟩ u) D tv T sv vs S := by
  have bk : ∀ {k : Nat} {cs' : Array Value} {ty : TypeId}, ty ≠ 59 → Blk W k cs' ty → Blk (W.setCell ⟨xb, o, none⟩ u) k cs' ty := fun hty hb => hb.far (a := ⟨xb, o, none⟩) (fun e => by
    simp only at e; subst e
    unfold Blk at hx hb
    rw [hx] at hb; simp at hb; exact hty hb.2.symm) u
  refine ⟨bk (by decide) h.ma, bk (by decide) h.mb, bk (by decide) h.rk, h.mp.setCell (a := ⟨xb, o, none⟩) (fun e => blk_ne_map hx h.mp e.symm) u, own_setCell h.tr (row_ne_blk h.tr hx (by decide)) u, bk (by decide) h.mc, ⟨h.own.len, own_setCell h.own.row hsx u, fun i hi hi' => (h.own.arcs i hi hi').setCell (row_ne_blk (h.own.arcs i hi hi') hx (by decide)) u⟩, h.bel.setCell hxb u, h.g1, h.g2⟩
/-- a state is put behind -/
theorem Co.state (h : Co w p1 AA n1 ca p2 AB n2 cb mpb mk W D tv T sv vs S) (s : StateL) {av : Value} (ha : OwnArcs W w.heap.size av s.arcs) (hg : W.grownBy W' sv.ownBlock) {g cap n : Nat} (hn : n = S.length + 1)
    (hx : W'.ownsRow w.heap.size 59 2 (.slice (some ⟨g, 0, none⟩) n cap) n (statesCells ((S.map (·.final)).zip vs) ++ [.int .i64 s.final, av])) : Co w p1 AA n1 ca p2 AB n2 cb mpb mk (W'.setCell ⟨mk, 1, none⟩ (.slice (some ⟨g, 0, none⟩) n cap)) D tv T (.slice (some ⟨g, 0, none⟩) n cap) (vs ++ [av]) (S ++ [s]) := by
  have hg2 := h.g2
  have hrow := h.own.row
  have bk : ∀ {k : Nat} {cs' : Array Value} {ty : TypeId}, ty ≠ 59 → k ≠ mk → Blk W k cs' ty → Blk (W'.setCell ⟨mk, 1, none⟩ (.slice (some ⟨g, 0, none⟩) n cap)) k cs' ty := fun hty hk hb => (hb.grown hg (fun e => row_ne_blk hrow hb (fun e2 => hty e2.symm) e.symm)).far (a := ⟨mk, 1, none⟩) hk _
  have mc' : Blk W' mk #[.int .i64 0, sv] 28 := h.mc.grown hg (fun e => row_ne_blk hrow h.mc (by decide) e.symm)
  have mp' : MapB W' mpb triV intV D := h.mp.grown hg (fun e => row_ne_map hrow h.mp e.symm)
  have tr' := h.tr.kept hg (own_ne h.tr hrow (by decide))
  have ow := h.own.app s ha hg hn hx
  have bel' : Below w.heap.size w W' := below_app h.bel hrow hg (Nat.le_refl _) h.bel.size
  refine ⟨bk (by decide) (by omega) h.ma, bk (by decide) (by omega) h.mb, bk (by decide) (by omega) h.rk, mp'.setCell (a := ⟨mk, 1, none⟩) (fun e => blk_ne_map mc' mp' e.symm) _, own_setCell tr' (row_ne_blk tr' mc' (by decide)) _, (mc'.put 1 _).eq (by simp), ⟨ow.len, own_setCell ow.row (row_ne_blk ow.row mc' (by decide)) _, fun i hi hi' => (ow.arcs i hi hi').setCell (row_ne_blk (ow.arcs i hi hi') mc' (by decide)) _⟩, bel'.setCell (by simp only; omega) _, h.g1, h.g2⟩
end
end Go.Proofs.Ytikkmoleneioeaa
