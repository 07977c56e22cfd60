/- Words for memory: a slice that reads as cells, whatever its address; blocks of the call's own. -/
/- Slices of ints that are read. -/
/- make of a slice whose length is a letter: the run's equation. -/
/- Whole blocks: what they hold, and what keeps them. -/
import Derived.Test.YtkmnacchiagipaaDoorPick
import Derived.Below
import Derived.OwnWalk
import Derived.Laws.OwnMore
import Derived.Deep.AppendLies
import Derived.Deep.Draws
namespace Go.Proofs.YtkmnacchiagipaaDoor
open Go.RowKit

/-- block and offset of a slice's address, if it has one -/
def blk (A : Option Addr) : Nat := match A with | some a => a.block | none => 0
def ofs (A : Option Addr) : Nat := match A with | some a => a.off | none => 0
/-- the address is there where the slice is not empty -/
def Rdy (A : Option Addr) (n : Nat) : Prop := 0 < n → A = some ⟨blk A, ofs A, none⟩

theorem rdy_some (b o n : Nat) : Rdy (some ⟨b, o, none⟩) n := fun _ => rfl
theorem rdy_zero (A : Option Addr) : Rdy A 0 := fun h => absurd h (by omega)
@[go_sem] theorem blk_some (b o : Nat) (s : Option Nat) : blk (some ⟨b, o, s⟩) = b := rfl
@[go_sem] theorem ofs_some (b o : Nat) (s : Option Nat) : ofs (some ⟨b, o, s⟩) = o := rfl

/-- an element's address in a slice that is ready -/
@[go_sem] theorem run_indexAt_rdy {P : Program} (w : World) (t : TypeId) (A : Option Addr) (n c : Nat) (k : IntKind) (i : Int) (h : P.underlying t = some (.slice (P.elem t))) (hA : Rdy A n) (h0 : 0 ≤ i) (h1 : i < n) :
    (Instr.indexAt t (.slice A n c) (.int k i)).run P w = ((sizeOf (P.elem t)).run P w).andThen fun s w => .ok (.pointer (some ((⟨blk A, ofs A, none⟩ : Addr).add (i.toNat * s)))) w := by
  have hn : 0 < n := by omega
  rw [hA hn]
  simp [run_indexAt_slice, h, h0, h1, blk, ofs]

/-- v has n elements of `size` cells each, which read as xs -/
structure Rd (w : World) (A : Option Addr) (n size : Nat) (xs : List Value) : Prop where
  len : xs.length = n * size
  rdy : Rdy A n
  cell : ∀ j (h : j < xs.length), w.cell? ⟨blk A, ofs A + j, none⟩ = some xs[j]

theorem Rd.nil (w : World) (A : Option Addr) (size : Nat) : Rd w A 0 size [] := ⟨by simp, rdy_zero A, fun j h => absurd h (by simp)⟩
theorem Rd.below {w w' : World} {A : Option Addr} {n size : Nat} {xs : List Value} (h : Rd w A n size xs) {B : Nat} (hb : Below B w w') (hB : B = w.heap.size) : Rd w' A n size xs :=
  ⟨h.len, h.rdy, fun j hj => by
    have := h.cell j hj
    rw [hb.cell (by rw [hB]; exact World.block_lt_of_cell? _ _ this)]
    exact this⟩
theorem Rd.of_own {w : World} {base : Nat} {e : TypeId} {size n c : Nat} {A : Option Addr} {xs : List Value} (h : w.ownsRow base e size (.slice A n c) n xs) : Rd w A n size xs := by
  obtain ⟨hl, h⟩ := h
  rcases h with ⟨hv, rfl⟩ | ⟨g, cap, cur, hv, _, hg, hle, _, hsz, htk⟩
  · have : xs = [] := List.eq_nil_of_length_eq_zero (by simpa using hl)
    subst this
    exact Rd.nil _ _ _
  · simp at hv
    obtain ⟨rfl, rfl⟩ := hv
    refine ⟨hl, rdy_some _ _ _, fun j hj => ?_⟩
    subst htk
    simp only [blk_some, ofs_some, Nat.zero_add]
    rw [cell_of_row w g j cur e (0, 0) hg]
    simp at hj ⊢
theorem own_form {w : World} {base : Nat} {e : TypeId} {size n : Nat} {v : Value} {xs : List Value} (h : w.ownsRow base e size v n xs) : ∃ A c, v = .slice A n c ∧ n ≤ c ∧ c ≤ maxLen := by
  rcases h.2 with ⟨rfl, rfl⟩ | ⟨g, cap, cur, rfl, _, _, hle, hm, _, _⟩
  · exact ⟨none, 0, rfl, Nat.le_refl _, by simp [maxLen]⟩
  · exact ⟨_, cap, rfl, hle, hm⟩

/-- what the laws of append ask of an element's type -/
structure Elt (P : Program) (t e : TypeId) (z : Value) (size bytes : Nat) : Prop where
  ht : P.underlying t = some (.slice e)
  info : (P.info? e).map (fun i => (i.zero, i.size, i.bytes)) = some (some z, size, bytes)
  hz : z.cells.size = size
  pos : 0 < size

section
variable {P : Program} {w : World} {ops : Array Oper} {rest : List Oper} {o : Oper} {a : Act} {Q : Exit → Act → World → Prop} {K : Act → World → Prop} {t e : TypeId} {z : Value} {size bytes : Nat}

/-- one element is appended to a slice of the call's own: it lies in a block that has just been made -/
theorem wpList_app1 (hgd : o.guard = none) (s x : Operand) (ho : o.op = .call { callee := .builtin .append, args := #[s, x], argTypes := #[t, t] })
    (E : Elt P t e z size bytes) (base : Nat) (v : Value) (n : Nat) (xs : List Value) (hs : a.eval s = v) (wr : World) (hown : wr.ownsRow base e size v n xs)
    (cs : Array Value) (hw : w = wr.alloc (.cells cs e)) (G : Nat) (hG : wr.heap.size = G) (hx : a.eval x = .slice (some ⟨G, 0, none⟩) 1 1) (hl : cs.size = size) (h1 : ∀ u ∈ cs.toList, u.oneCell' = true)
    (hn : n + 1 ≤ 1000000) (hbytes : bytes ≤ 1000) (hb : base ≤ wr.heap.size)
    (h : ∀ g cap w', w'.ownsRow base e size (.slice (some ⟨g, 0, none⟩) (n + 1) cap) (n + 1) (xs ++ cs.toList) → wr.grownBy w' v.ownBlock → (v.ownBlock = some g ∨ wr.heap.size < g) → g < w'.heap.size →
      wpList P ops Q rest (a.put o.dst (.slice (some ⟨g, 0, none⟩) (n + 1) cap)) w') : wpList P ops Q (o :: rest) a w := by
  obtain ⟨i, hi, hz0, hz1, hz2⟩ := info_parts E.info
  have hbb : (n + 1) * bytes ≤ 1000000 * 1000 := Nat.mul_le_mul hn hbytes
  subst hw
  subst hG
  refine wpList_append_lies _ hgd s x t ho base e i z size bytes E.ht hi hz0 hz1 hz2 E.hz E.pos v n xs hs (hown.alloc _) ⟨wr.heap.size, 0, none⟩ 1 1 cs.toList hx (by simp [hl]) (World.news_of_block (heap_alloc_new wr _)) h1 (by omega) (by simp only [maxLen]; omega) (by omega) (by simp; omega) (wr.heap.size + 1) (by simp) ?_
  intro g cap w' h2 h3 h4 h5
  refine h g cap w' h2 ⟨h3.os, h3.tape, h3.output, Nat.le_trans (by simp) h3.size, fun k hk hne => ?_⟩ (h4.imp id (fun hh => by omega)) h5
  rw [h3.block k (by simp; omega) hne]
  exact heap_alloc_old wr _ hk

/-- the same at a step of a region that draws -/
theorem step_app1 {EE : Prop} (hgd : o.guard = none) (s x : Operand) (ho : o.op = .call { callee := .builtin .append, args := #[s, x], argTypes := #[t, t] })
    (E : Elt P t e z size bytes) (base : Nat) (v : Value) (n : Nat) (xs : List Value) (hs : a.eval s = v) (hown : w.ownsRow base e size v n xs)
    (B : Nat) (cs : Array Value) (hB : w.heap[B]? = some (.cells cs e (0, 0))) (hx : a.eval x = .slice (some ⟨B, 0, none⟩) 1 1) (hl : cs.size = size) (h1 : ∀ u ∈ cs.toList, u.oneCell' = true)
    (hn : n + 1 ≤ 1000000) (hbytes : bytes ≤ 1000) (hb : base ≤ w.heap.size)
    (h : ∀ g cap w', w'.ownsRow base e size (.slice (some ⟨g, 0, none⟩) (n + 1) cap) (n + 1) (xs ++ cs.toList) → w.grownBy w' v.ownBlock → (v.ownBlock = some g ∨ g = w.heap.size) → g < w'.heap.size →
      K (a.put o.dst (.slice (some ⟨g, 0, none⟩) (n + 1) cap)) w') : if Region.wanted o (yielded ops a.tmps) = true then Oper.wp P o a w K Q else EE := by
  obtain ⟨i, hi, hz0, hz1, hz2⟩ := info_parts E.info
  have hbb : (n + 1) * bytes ≤ 1000000 * 1000 := Nat.mul_le_mul hn hbytes
  exact step_append_lies w hgd s x t ho base e i z size bytes E.ht hi hz0 hz1 hz2 E.hz E.pos v n xs hs hown ⟨B, 0, none⟩ 1 1 cs.toList hx (by simp [hl]) (World.news_of_block hB) h1 (by omega) (by simp only [maxLen]; omega) (by omega) hb w.heap.size rfl h
end

section
variable {P : Program} (w : World) {t e : TypeId} {z : Value} {size bytes : Nat}

theorem run_app_none (E : Elt P t e z size bytes) (ty : TypeId) (base : Nat) (v : Value) (n : Nat) (xs : List Value) (hown : w.ownsRow base e size v n xs) (c : Nat) :
    (Builtin.append_ #[t, t] ty #[v, .slice none 0 c]).run P w = .ok v w := by
  obtain ⟨i, hi, _, _, _⟩ := info_parts E.info
  rcases hown.2 with ⟨rfl, rfl⟩ | ⟨g, cap, cur, rfl, _, _, hnc, _⟩
  · simp [Builtin.append_, run_underlying E.ht, sizeOf, typeInfo, hi, Builtin.lenOf, Builtin.firstCells]
  · simp [Builtin.append_, run_underlying E.ht, sizeOf, typeInfo, hi, Builtin.lenOf, Builtin.firstCells, hnc, storeCells]

theorem addr_add (b o j : Nat) : (⟨b, o, none⟩ : Addr).add j = ⟨b, o + j, none⟩ := by
  unfold Addr.add; split
  · subst_vars; rfl
  · rfl

/-- a whole slice is appended to one of the call's own -/
theorem run_appR (E : Elt P t e z size bytes) (ty : TypeId) (base : Nat) (v : Value) (n : Nat) (xs : List Value) (hown : w.ownsRow base e size v n xs)
    (A : Option Addr) (m c : Nat) (ys : List Value) (hr : Rd w A m size ys) (h1 : ∀ u ∈ ys, u.oneCell' = true) (hn : n + m ≤ 1000000) (hbytes : bytes ≤ 1000) (hb : base ≤ w.heap.size) :
    ∃ v' w', (Builtin.append_ #[t, t] ty #[v, .slice A m c]).run P w = .ok v' w' ∧ w'.ownsRow base e size v' (n + m) (xs ++ ys) ∧ w.grownBy w' v.ownBlock ∧ (v'.ownBlock = v.ownBlock ∨ v'.ownBlock = some w.heap.size) := by
  obtain ⟨i, hi, hz0, hz1, hz2⟩ := info_parts E.info
  have hbb : (n + m) * bytes ≤ 1000000 * 1000 := Nat.mul_le_mul hn hbytes
  cases A with
  | none =>
    have hm : m = 0 := by
      rcases Nat.eq_zero_or_pos m with h0 | h0
      · exact h0
      · exact absurd (hr.rdy h0) (by simp)
    subst hm
    have hy : ys = [] := List.eq_nil_of_length_eq_zero (by simpa using hr.len)
    subst hy
    exact ⟨v, w, run_app_none w E ty base v n xs hown c, by simpa using hown, World.grownBy.refl w _, .inl rfl⟩
  | some ad =>
    have hcells : ∀ j u, ys[j]? = some u → w.cell? (ad.add j) = some u := by
      intro j u hu
      have hj : j < ys.length := by
        rcases Nat.lt_or_ge j ys.length with h | h
        · exact h
        · rw [List.getElem?_eq_none h] at hu; cases hu
      have hm : 0 < m := by
        rcases Nat.eq_zero_or_pos m with h0 | h0
        · rw [hr.len, h0] at hj; simp at hj
        · exact h0
      have ha := hr.rdy hm
      simp at ha
      have hc := hr.cell j hj
      rw [ha, addr_add]
      rw [List.getElem?_eq_getElem hj] at hu
      rw [← hu]
      exact hc
    obtain ⟨v', w', hrun, h2, h3, _, h5⟩ := run_append_own_at (P := P) w base t ty e i z size bytes E.ht hi hz0 hz1 hz2 E.hz E.pos v n xs hown ad m c ys hr.len hcells h1 (by simp only [maxLen]; omega) (by omega) hb
    exact ⟨v', w', hrun, h2, h3, h5⟩

theorem wp_appR {o : Oper} {a : Act} {K : Act → World → Prop} {Q : Exit → Act → World → Prop} (s x : Operand) (ho : o.op = .call { callee := .builtin .append, args := #[s, x], argTypes := #[t, t] })
    (E : Elt P t e z size bytes) (base : Nat) (v : Value) (n : Nat) (xs : List Value) (hs : a.eval s = v) (hown : w.ownsRow base e size v n xs)
    (A : Option Addr) (m c : Nat) (ys : List Value) (hx : a.eval x = .slice A m c) (hr : Rd w A m size ys) (h1 : ∀ u ∈ ys, u.oneCell' = true) (hn : n + m ≤ 1000000) (hbytes : bytes ≤ 1000) (hb : base ≤ w.heap.size)
    (h : ∀ v' w', w'.ownsRow base e size v' (n + m) (xs ++ ys) → w.grownBy w' v.ownBlock → (v'.ownBlock = v.ownBlock ∨ v'.ownBlock = some w.heap.size) → K (a.put o.dst v') w') : o.wp P a w K Q := by
  obtain ⟨v', w', hrun, h2, h3, h4⟩ := run_appR w E o.type base v n xs hown A m c ys hr h1 hn hbytes hb
  unfold Oper.wp execOp
  simp only [ho, resolve, invoke, builtin, Sem.run_bind, Sem.run_pure, Result.andThen_ok, List.map_toArray, List.map_cons, List.map_nil, hs, hx, hrun]
  exact h v' w' h2 h3 h4

theorem wpList_appR {ops : Array Oper} {rest : List Oper} {o : Oper} {a : Act} {Q : Exit → Act → World → Prop} (hgd : o.guard = none) (s x : Operand) (ho : o.op = .call { callee := .builtin .append, args := #[s, x], argTypes := #[t, t] })
    (E : Elt P t e z size bytes) (base : Nat) (v : Value) (n : Nat) (xs : List Value) (hs : a.eval s = v) (hown : w.ownsRow base e size v n xs)
    (A : Option Addr) (m c : Nat) (ys : List Value) (hx : a.eval x = .slice A m c) (hr : Rd w A m size ys) (h1 : ∀ u ∈ ys, u.oneCell' = true) (hn : n + m ≤ 1000000) (hbytes : bytes ≤ 1000) (hb : base ≤ w.heap.size)
    (h : ∀ v' w', w'.ownsRow base e size v' (n + m) (xs ++ ys) → w.grownBy w' v.ownBlock → (v'.ownBlock = v.ownBlock ∨ v'.ownBlock = some w.heap.size) → wpList P ops Q rest (a.put o.dst v') w') : wpList P ops Q (o :: rest) a w :=
  wpList_plain hgd fun _ hK => wp_appR w s x ho E base v n xs hs hown A m c ys hx hr h1 hn hbytes hb fun v' w' h2 h3 h4 => hK _ _ (h v' w' h2 h3 h4)
end

theorem below_app {B : Nat} {w0 wr w' : World} {base : Nat} {e : TypeId} {size n : Nat} {v : Value} {xs : List Value} (bel : Below B w0 wr) (hown : wr.ownsRow base e size v n xs) (hg : wr.grownBy w' v.ownBlock) (hB : B ≤ base) (hb : base ≤ wr.heap.size) : Below B w0 w' :=
  bel.grown hg (by omega) (fun k hk => by have := hown.lt k hk; omega)
theorem Below.step {a b c : World} (h : Below a.heap.size a b) (k : Below b.heap.size b c) : Below a.heap.size a c := h.trans (k.mono h.size)
theorem bcell {W w1 : World} (hb : Below W.heap.size W w1) : (∀ b o, b < W.heap.size → w1.cell? ⟨b, o, none⟩ = W.cell? ⟨b, o, none⟩) ∧ (∀ b o, b < W.heap.size → w1.frozen? ⟨b, o, none⟩ = W.frozen? ⟨b, o, none⟩) :=
  ⟨fun b o h => hb.cell (p := ⟨b, o, none⟩) h, fun b o h => hb.frozen (p := ⟨b, o, none⟩) h⟩
end Go.Proofs.YtkmnacchiagipaaDoor

namespace Go.Proofs.YtkmnacchiagipaaDoor
open Go.RowKit

/-- the ints of a list as cells -/
abbrev icells (xs : List Int) : List Value := xs.map (Value.int .i64)

theorem rdi_cell {w : World} {A : Option Addr} {n : Nat} {xs : List Int} (h : Rd w A n 1 (icells xs)) (k : Nat) (hk : k < xs.length) : w.cell? ⟨blk A, ofs A + k, none⟩ = some (.int .i64 xs[k]) := by
  have := h.cell k (by simpa using hk)
  simpa using this
theorem rdi_len {w : World} {A : Option Addr} {n : Nat} {xs : List Int} (h : Rd w A n 1 (icells xs)) : n = xs.length := by have := h.len; simp at this; omega

end Go.Proofs.YtkmnacchiagipaaDoor

namespace Go.Proofs.YtkmnacchiagipaaDoor
open Go.RowKit

theorem run_make_elt {P : Program} {t e : TypeId} {z : Value} {size bytes : Nat} (E : Elt P t e z size bytes) (w : World) (n : Nat) (hn : n ≤ 10000) (hs : size ≤ 100) (hb : bytes ≤ 1000) :
    (Instr.makeSlice t (.int .i64 n) (.int .i64 n)).run P w = .ok (.slice (some ⟨w.heap.size, 0, none⟩) n n) (w.alloc (.cells (madeCells z.cells (n * size)) e)) := by
  obtain ⟨i, hi, hz0, hz1, hz2⟩ := info_parts E.info
  have h1 : n * size ≤ 10000 * 100 := Nat.mul_le_mul hn hs
  have h2 : bytes * n ≤ 1000 * 10000 := Nat.mul_le_mul hb hn
  have h := run_makeSlice (P := P) w t e i z E.ht hi hz0 .i64 .i64 n n (by omega) (by omega) (by rw [hz1]; simp; omega) (by rw [hz2, ← Int.natCast_mul]; omega) (by omega)
  rw [h, hz1]
  simp
theorem made_at (v : Value) (n : Nat) : madeCells #[v] n = (List.replicate n v).toArray := by
  apply Array.ext
  · simp [madeCells]
  · intro i h1 h2
    simp [madeCells, Nat.mod_one]
end Go.Proofs.YtkmnacchiagipaaDoor

namespace Go.Proofs.YtkmnacchiagipaaDoor
open Go.RowKit

/-- block b has the cells cs, none of them frozen -/
def Blk (w : World) (b : Nat) (cs : Array Value) (t : TypeId) : Prop := w.heap[b]? = some (.cells cs t (0, 0))

section
variable {w w' : World} {b : Nat} {cs : Array Value} {t : TypeId}
theorem Blk.lt (h : Blk w b cs t) : b < w.heap.size := (Array.getElem?_eq_some_iff.1 h).1
theorem Blk.cell (h : Blk w b cs t) (o : Nat) : w.cell? ⟨b, o, none⟩ = cs[o]? := by unfold Blk at h; simp [World.cell?, h]
theorem Blk.froz (h : Blk w b cs t) (o : Nat) : w.frozen? ⟨b, o, none⟩ = false := by unfold Blk at h; simp [World.frozen?, h]
theorem Blk.kept (h : Blk w b cs t) (e : w'.heap[b]? = w.heap[b]?) : Blk w' b cs t := e.trans h
theorem Blk.below (h : Blk w b cs t) {B : Nat} (hb : Below B w w') (hB : b < B) : Blk w' b cs t := h.kept (hb.block b hB)
theorem Blk.step (h : Blk w b cs t) (hb : Below w.heap.size w w') : Blk w' b cs t := h.kept (hb.block b h.lt)
theorem Blk.grown (h : Blk w b cs t) {row : Option Nat} (hg : w.grownBy w' row) (hne : some b ≠ row) : Blk w' b cs t := h.kept (hg.block b h.lt hne)
theorem Blk.drew (h : Blk w b cs t) : Blk w.drew b cs t := h
theorem Blk.alloc (h : Blk w b cs t) (o : Obj) : Blk (w.alloc o) b cs t := h.kept (heap_alloc_old w o h.lt)
theorem Blk.new (w : World) (cs : Array Value) (t : TypeId) : Blk (w.alloc (.cells cs t)) w.heap.size cs t := heap_alloc_new w _
theorem Blk.new' (hb : b = w.heap.size) : Blk (w.alloc (.cells cs t)) b cs t := by subst hb; exact heap_alloc_new w _
theorem Blk.far (h : Blk w b cs t) {a : Addr} (ha : b ≠ a.block) (u : Value) : Blk (w.setCell a u) b cs t := h.kept (Below.heap_setCell _ _ _ _ ha)
theorem Blk.put (h : Blk w b cs t) (o : Nat) (u : Value) : Blk (w.setCell ⟨b, o, none⟩ u) b (cs.setIfInBounds o u) t := by
  unfold Blk at *
  simp [World.setCell, Array.getElem?_modify, h]
theorem Blk.eq (h : Blk w b cs t) {cs' : Array Value} (e : cs = cs') : Blk w b cs' t := e ▸ h
theorem Blk.rd {size n : Nat} (h : Blk w b cs t) (hn : cs.size = n * size) : Rd w (some ⟨b, 0, none⟩) n size cs.toList :=
  ⟨by simpa using hn, rdy_some _ _ _, fun j hj => by
    simp only [blk_some, ofs_some, Nat.zero_add]; rw [h.cell j]; simp at hj ⊢⟩
end
/-- what a cell holds, behind a name -/
def cellOr (w : World) (a : Addr) : Value := (w.cell? a).getD undef
/-- a limb of a region's S about a cell that the region's last store hits: it is the old one while nothing has been made -/
theorem limb_old {w : World} {a : Addr} {v : Value} (n : Nat) (h : w.cell? a = some v) : w.cell? a = some (if w.heap.size ≤ n then v else cellOr w a) := by
  split
  · exact h
  · unfold cellOr; rw [h]; rfl
theorem limb_new {w : World} {a : Addr} (v : Value) {n : Nat} (hn : n < w.heap.size) (h : (w.cell? a).isSome = true) : w.cell? a = some (if w.heap.size ≤ n then v else cellOr w a) := by
  rw [if_neg (by omega)]
  unfold cellOr
  cases e : w.cell? a with
  | none => rw [e] at h; cases h
  | some x => rfl
theorem cell_far {w : World} {a b : Addr} {v : Value} (u : Value) (h : w.cell? a = some v) (hne : b ≠ a) : (w.setCell b u).cell? a = some v := by
  rw [World.cell?_setCell_other _ _ _ _ hne]; exact h
end Go.Proofs.YtkmnacchiagipaaDoor
