/- Raw numbers of a machine that came in: how they read. -/
import Derived.Test.YtkmnacchiagipaaDoorMem
import Derived.ProofKit
import Derived.OpenShut
import Derived.Lib.SmallJoins
import Derived.Deep.Slices
import Derived.Deep.Fields
import Derived.ChangeSame
namespace Go.Proofs.YtkmnacchiagipaaDoor
open Go.ChangeShapes Go.WideShapes Go.ChangeAt Go.RowKit Go.Joins Go.Deep

structure NodeL where
  final : Int
  ends : Bool
  arcs : List ArcL
structure RawL where
  start : Int
  nodes : List NodeL

def I64 (n : Int) : Prop := -9223372036854775808 ≤ n ∧ n ≤ 9223372036854775807

structure NodesAt (w : World) (A : Option Addr) (ns : List NodeL) : Prop where
  rdy : Rdy A ns.length
  c0 : ∀ i (h : i < ns.length), w.cell? ⟨blk A, ofs A + i * 3, none⟩ = some (.int .i64 ns[i].final)
  c1 : ∀ i (h : i < ns.length), w.cell? ⟨blk A, ofs A + i * 3 + 1, none⟩ = some (.bool ns[i].ends)
  c2 : ∀ i (h : i < ns.length), ∃ A' c, w.cell? ⟨blk A, ofs A + i * 3 + 2, none⟩ = some (.slice A' ns[i].arcs.length c) ∧ ArcsAt w A' ns[i].arcs ∧ ns[i].arcs.length ≤ 9223372036854775807
  bd : ∀ i (h : i < ns.length), I64 ns[i].final ∧ ∀ a ∈ ns[i].arcs, I64 a.inn ∧ I64 a.out ∧ I64 a.wt ∧ I64 a.to

def RawArg (w : World) (v : Value) (r : RawL) : Prop := I64 r.start ∧ r.nodes.length ≤ 9223372036854775807 ∧ ∃ A c, v = .agg #[.int .i64 r.start, .slice A r.nodes.length c] ∧ NodesAt w A r.nodes

theorem NodesAt.below {w w' : World} {A : Option Addr} {l : List NodeL} (h : NodesAt w A l) {B : Nat} (hb : Below B w w') (hB : w.heap.size ≤ B) : NodesAt w' A l :=
  ⟨h.rdy, fun i hi => cell_keep hb hB (h.c0 i hi), fun i hi => cell_keep hb hB (h.c1 i hi), fun i hi => by
    obtain ⟨A', c, h1, h2, h3⟩ := h.c2 i hi
    exact ⟨A', c, cell_keep hb hB h1, h2.below hb hB, h3⟩, h.bd⟩
theorem RawArg.below {w w' : World} {v : Value} {r : RawL} (h : RawArg w v r) (hb : Below w.heap.size w w') : RawArg w' v r := by
  obtain ⟨h0, h1, A, c, hv, h⟩ := h
  exact ⟨h0, h1, A, c, hv, h.below hb (Nat.le_refl _)⟩

section
variable {H : Type} {enc : TypeId × Value → H} {P : Program} {w : World} {base : Nat} {spare : Nat → Bool} {held : Bool}

/-- a slice of structs whose fields have one cell each: the cells of its elements, and how they read -/
theorem slice_structs {t e : TypeId} {fs : Array Field} {fuel : Nat} {v : Value} {x : DataW H × List MemPlace} (ht : P.underlying t = some (.slice e)) (he : P.underlying e = some (.struct fs))
    (hone : oneCellFields P fs = true) (hC : P.cellsOf e = fs.size) (hp : 0 < fs.size) (h : DataW.trod enc P w base spare held fuel t [v] = some x) :
    ∃ (A : Option Addr) (n c : Nat), v = .slice A n c ∧ n ≤ maxLen ∧ Rdy A n ∧
      ∀ i, i < n → ∃ (k : Nat) (ys : List (DataW H × List MemPlace)), ys.length = fs.size ∧ ∀ (j : Nat) (f : Field), fs[j]? = some f → ∃ (u : Value) (y : DataW H × List MemPlace), w.cell? ⟨blk A, ofs A + (i * fs.size + j), none⟩ = some u ∧ ys[j]? = some y ∧ DataW.trod enc P w base spare held k f.type [u] = some y := by
  rcases open_slice ht h with ⟨h0, _⟩ | ⟨a, len, cap, m, n, D, Pl, hcs, _, hl, hm, hmm, _, hi⟩
  · simp at h0
    exact ⟨none, 0, 0, h0, by simp [maxLen], rdy_zero _, fun i hi => absurd hi (by omega)⟩
  · simp at hcs
    have key : ∀ i, i < len → ∃ (k : Nat) (ys : List (DataW H × List MemPlace)), ys.length = fs.size ∧ ∀ (j : Nat) (f : Field), fs[j]? = some f → ∃ (u : Value) (y : DataW H × List MemPlace), w.cell? (a.add (i * fs.size + j)) = some u ∧ ys[j]? = some y ∧ DataW.trod enc P w base spare held k f.type [u] = some y := by
      intro i hlt
      have him : i < m := by rw [hmm]; split <;> omega
      obtain ⟨cs', hc, ht'⟩ := hi i him
      rw [hC] at hc
      obtain ⟨ys, n', _, _, _, hyl, hf⟩ := DataW.trod_struct he ht'
      obtain ⟨_, hcl, hat⟩ := World.cells?_some hc
      refine ⟨n', ys, hyl, fun j f hj => ?_⟩
      obtain ⟨ho, hk⟩ := hone_of hone j f hj
      have hjl : j < fs.size := (Array.getElem?_eq_some_iff.1 hj).1
      have hcell := hat j hjl
      have h1 := hf j f hj
      rw [ho, hk] at h1
      have hone' : (cs'.drop j).take 1 = [cs'[j]'(by omega)] := by
        rw [List.drop_eq_getElem_cons (by omega)]
        rfl
      rw [hone'] at h1
      have hys : ys[j]? = some (ys[j]'(by omega)) := List.getElem?_eq_getElem (by omega)
      refine ⟨cs'[j]'(by omega), _, ?_, hys, h1.trans hys⟩
      rw [← Go.Deep.add_add, hcell]
      exact List.getElem?_eq_getElem (by omega)
    obtain ⟨b, off, spot⟩ := a
    refine ⟨some ⟨b, off, spot⟩, len, cap, hcs, by omega, fun h0 => ?_, fun i hlt => ?_⟩
    · obtain ⟨k, ys, _, hf⟩ := key 0 h0
      obtain ⟨u, y, hc, _⟩ := hf 0 fs[0] (Array.getElem?_eq_getElem hp)
      have : spot = none := by simpa [Addr.add] using World.cell?_spot hc
      subst this; rfl
    · obtain ⟨k, ys, hyl, hf⟩ := key i hlt
      refine ⟨k, ys, hyl, fun j f hj => ?_⟩
      obtain ⟨u, y, hc, hy, ht'⟩ := hf j f hj
      obtain ⟨k0, ys0, _, hf0⟩ := key 0 (by omega)
      obtain ⟨u0, y0, hc0, _⟩ := hf0 0 fs[0] (Array.getElem?_eq_getElem hp)
      have : spot = none := by simpa [Addr.add] using World.cell?_spot hc0
      subst this
      rw [addr_add] at hc
      exact ⟨u, y, hc, hy, ht'⟩
end

theorem list_of {α : Type} (p : Nat → α → Prop) : ∀ n : Nat, (∀ i, i < n → ∃ x, p i x) → ∃ l : List α, l.length = n ∧ ∀ i (h : i < l.length), p i l[i] := by
  intro n
  induction n with
  | zero => intro _; exact ⟨[], rfl, fun i h => absurd h (by simp)⟩
  | succ n ih =>
    intro h
    obtain ⟨l, hl, hp⟩ := ih (fun i hi => h i (by omega))
    obtain ⟨x, hx⟩ := h n (by omega)
    refine ⟨l ++ [x], by simp [hl], fun i hi => ?_⟩
    by_cases hlt : i < l.length
    · rw [List.getElem_append_left hlt]; exact hp i hlt
    · have : i = l.length := by simp at hi; omega
      subst this
      simp only [List.getElem_append_right (Nat.le_refl _), Nat.sub_self, List.getElem_singleton]
      rw [hl]; exact hx

section
variable {H : Type} {enc : TypeId × Value → H} {W : World} {base : Nat} {spare : Nat → Bool} {held : Bool}

theorem fieldsEdge : ∃ f0 f1 f2 f3 : Field, Tryd.prog.underlying 128 = some (.struct #[f0, f1, f2, f3]) ∧ f0.type = 3 ∧ f1.type = 3 ∧ f2.type = 3 ∧ f3.type = 3 ∧ oneCellFields Tryd.prog #[f0, f1, f2, f3] = true ∧ Tryd.prog.cellsOf 128 = 4 :=
  ⟨_, _, _, _, Tryd.underlying128, rfl, rfl, rfl, rfl, by kernel_rfl, by kernel_rfl⟩
theorem fieldsNode : ∃ f0 f1 f2 : Field, Tryd.prog.underlying 127 = some (.struct #[f0, f1, f2]) ∧ f0.type = 3 ∧ f1.type = 4 ∧ f2.type = 125 ∧ oneCellFields Tryd.prog #[f0, f1, f2] = true ∧ Tryd.prog.cellsOf 127 = 3 :=
  ⟨_, _, _, Tryd.underlying127, rfl, rfl, rfl, by kernel_rfl, by kernel_rfl⟩
theorem open_int1 {fuel : Nat} {v : Value} {y : DataW H × List MemPlace} (h : DataW.trod enc Tryd.prog W base spare held fuel 3 [v] = some y) : ∃ a, v = .int .i64 a ∧ I64 a := by
  obtain ⟨a, e, _, wa⟩ := DataW.trod_int Tryd.underlying3 h
  simp at e
  exact ⟨a, e, wf_i64 wa⟩
theorem open_bool1 {fuel : Nat} {v : Value} {y : DataW H × List MemPlace} (h : DataW.trod enc Tryd.prog W base spare held fuel 4 [v] = some y) : ∃ a, v = .bool a := by
  obtain ⟨a, e, _⟩ := DataW.trod_bool Tryd.underlying4 h
  simp at e
  exact ⟨a, e⟩
theorem open_edges {fuel : Nat} {v : Value} {y : DataW H × List MemPlace} (h : DataW.trod enc Tryd.prog W base spare held fuel 125 [v] = some y) :
    ∃ A c l, v = .slice A l.length c ∧ l.length ≤ 9223372036854775807 ∧ ArcsAt W A l ∧ ∀ a ∈ l, I64 a.inn ∧ I64 a.out ∧ I64 a.wt ∧ I64 a.to := by
  obtain ⟨f0, f1, f2, f3, hu, t0, t1, t2, t3, ho, hc⟩ := fieldsEdge
  obtain ⟨A, n, c, rfl, hn, hr, hk⟩ := slice_structs Tryd.underlying125 hu ho hc (by simp) h
  obtain ⟨l, hl, hp⟩ := list_of (fun i (a : ArcL) => W.cell? ⟨blk A, ofs A + i * 4, none⟩ = some (.int .i64 a.inn) ∧ W.cell? ⟨blk A, ofs A + i * 4 + 1, none⟩ = some (.int .i64 a.out) ∧ W.cell? ⟨blk A, ofs A + i * 4 + 2, none⟩ = some (.int .i64 a.wt) ∧ W.cell? ⟨blk A, ofs A + i * 4 + 3, none⟩ = some (.int .i64 a.to) ∧ I64 a.inn ∧ I64 a.out ∧ I64 a.wt ∧ I64 a.to) n (by
    intro i hi
    obtain ⟨k, ys, _, hf⟩ := hk i hi
    obtain ⟨u0, y0, c0, _, h0⟩ := hf 0 f0 rfl
    obtain ⟨u1, y1, c1, _, h1⟩ := hf 1 f1 rfl
    obtain ⟨u2, y2, c2, _, h2⟩ := hf 2 f2 rfl
    obtain ⟨u3, y3, c3, _, h3⟩ := hf 3 f3 rfl
    rw [t0] at h0; rw [t1] at h1; rw [t2] at h2; rw [t3] at h3
    obtain ⟨a0, rfl, b0⟩ := open_int1 h0
    obtain ⟨a1, rfl, b1⟩ := open_int1 h1
    obtain ⟨a2, rfl, b2⟩ := open_int1 h2
    obtain ⟨a3, rfl, b3⟩ := open_int1 h3
    exact ⟨⟨a0, a1, a2, a3⟩, c0, c1, c2, c3, b0, b1, b2, b3⟩)
  subst hl
  refine ⟨A, c, l, rfl, by simpa [maxLen] using hn, ⟨hr, fun i hi => (hp i hi).1, fun i hi => (hp i hi).2.1, fun i hi => (hp i hi).2.2.1, fun i hi => (hp i hi).2.2.2.1⟩, fun a ha => ?_⟩
  obtain ⟨i, hi, rfl⟩ := List.getElem_of_mem ha
  exact (hp i hi).2.2.2.2
theorem open_nodes {fuel : Nat} {v : Value} {y : DataW H × List MemPlace} (h : DataW.trod enc Tryd.prog W base spare held fuel 60 [v] = some y) :
    ∃ A c l, v = .slice A l.length c ∧ l.length ≤ 9223372036854775807 ∧ NodesAt W A l := by
  obtain ⟨f0, f1, f2, hu, t0, t1, t2, ho, hc⟩ := fieldsNode
  obtain ⟨A, n, c, rfl, hn, hr, hk⟩ := slice_structs Tryd.underlying60 hu ho hc (by simp) h
  obtain ⟨l, hl, hp⟩ := list_of (fun i (a : NodeL) => W.cell? ⟨blk A, ofs A + i * 3, none⟩ = some (.int .i64 a.final) ∧ W.cell? ⟨blk A, ofs A + i * 3 + 1, none⟩ = some (.bool a.ends) ∧ (∃ A' c, W.cell? ⟨blk A, ofs A + i * 3 + 2, none⟩ = some (.slice A' a.arcs.length c) ∧ ArcsAt W A' a.arcs ∧ a.arcs.length ≤ 9223372036854775807) ∧ I64 a.final ∧ ∀ e ∈ a.arcs, I64 e.inn ∧ I64 e.out ∧ I64 e.wt ∧ I64 e.to) n (by
    intro i hi
    obtain ⟨k, ys, _, hf⟩ := hk i hi
    obtain ⟨u0, y0, c0, _, h0⟩ := hf 0 f0 rfl
    obtain ⟨u1, y1, c1, _, h1⟩ := hf 1 f1 rfl
    obtain ⟨u2, y2, c2, _, h2⟩ := hf 2 f2 rfl
    rw [t0] at h0; rw [t1] at h1; rw [t2] at h2
    obtain ⟨a0, rfl, b0⟩ := open_int1 h0
    obtain ⟨a1, rfl⟩ := open_bool1 h1
    obtain ⟨A', c', l', rfl, hl', ha, hb⟩ := open_edges h2
    exact ⟨⟨a0, a1, l'⟩, c0, c1, ⟨A', c', c2, ha, hl'⟩, b0, hb⟩)
  subst hl
  exact ⟨A, c, l, rfl, by simpa [maxLen] using hn, ⟨hr, fun i hi => (hp i hi).1, fun i hi => (hp i hi).2.1, fun i hi => (hp i hi).2.2.1, fun i hi => (hp i hi).2.2.2⟩⟩
end

theorem cellsRaw : Tryd.prog.cellsOf 62 = 2 := by kernel_rfl

set_option maxRecDepth 100000 in
theorem open_raw_arg {H : Type} {enc : TypeId × Value → H} {W : World} {base : Nat} {v : Value} {d : DataW H} {p : List MemPlace}
    (hv : Value.okWide Tryd.prog W .any base 62 v) (h : DataW.Trod enc Tryd.prog W 0 (fun _ => true) true 62 v d p) :
    ∃ r, RawArg W v r := by
  obtain ⟨c0, c1, y0, y1, m, rfl, rfl, rfl, hy0, hy1⟩ := open_agg2 Tryd.underlying62 (by kernel_rfl) cellsRaw hv h
  obtain ⟨a, rfl, b0⟩ := open_int1 hy0
  obtain ⟨A, c, l, rfl, hl, hn⟩ := open_nodes hy1
  exact ⟨⟨a, l⟩, b0, hl, A, c, rfl, hn⟩
end Go.Proofs.YtkmnacchiagipaaDoor
