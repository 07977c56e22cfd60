/- tropicakeep.Step: a step of raw numbers. -/
import Derived.Test.YtkmnacchiagipaaDoorScriptBackPlain
import Derived.Test.YtkmnacchiagipaaDoorRaw
import Derived.Laws.BytesString
import Derived.Deep.RegionHeld3
namespace Go.Proofs.YtkmnacchiagipaaDoor
open Go.RowKit Go.ChangeShapes Go.WideShapes Go.ChangeAt Go.Joins Go.Deep

structure TodoL where
  kind : Int
  dest : Int
  a : Int
  b : Int
  name : Int
def TodoOk (t : TodoL) : Prop := I64 t.kind ∧ I64 t.dest ∧ I64 t.a ∧ I64 t.b ∧ I64 t.name
set_option maxRecDepth 100000 in
theorem nameT_any (n : Int) (w : World) (h : I64 n) : Calls Tryd.prog 50 #[.int .i64 n] w fun e w' => e = .returned (.string ⟨(nmT n).toArray⟩) ∧ Below w.heap.size w w' := by
  have hp := pick_range n 4 (by omega)
  have PK := Lib.hid (fun W => picked_any n 4 W h.1 h.2 (by omega) (by omega))
  have hnm : nmT n = [UInt8.ofNat (97 + (pick n 4).toNat)] := rfl
  rw [hnm]
  generalize pick n 4 = p at *
  clear hnm h
  obtain ⟨m, rfl⟩ : ∃ m : Nat, p = m := ⟨p.toNat, by omega⟩
  have hm : m < 4 := by omega
  have hu : (UInt8.ofNat ((97 : Int) + (m : Int)).toNat) = UInt8.ofNat (97 + (m : Int).toNat) := by congr 1
  have hcv : (convert 86 9 (.slice (some ⟨w.heap.size, 0, none⟩) 1 1)).run Tryd.prog (w.alloc (.cells #[.int .u8 (97 + (m : Int))] 5)) = .ok (.string ⟨#[UInt8.ofNat (97 + (m : Int).toNat)]⟩) (w.alloc (.cells #[.int .u8 (97 + (m : Int))] 5)) := by
    rw [run_convert_bytes_string _ _ _ _ _ _ _ Tryd.underlying86 Tryd.underlying5 Tryd.underlying9]
    rw [run_bytesToString _ _ 1 1 [97 + (m : Int)] ?_]
    · simp only [List.foldl_cons, List.foldl_nil, hu]; rfl
    · refine run_loadCells_list (P := Tryd.prog) _ ⟨w.heap.size, 0, none⟩ [.int .u8 (97 + (m : Int))] fun j v hv => ?_
      match j, hv with
      | 0, hv =>
        obtain rfl : v = .int .u8 (97 + (m : Int)) := (Option.some.inj hv).symm
        have := (Blk.new w #[.int .u8 (97 + (m : Int))] 5).cell 0
        simp [Addr.add]
  have hb : Below w.heap.size w (w.alloc (.cells #[.int .u8 (97 + (m : Int))] 5)) := (Below.refl _ _).alloc (Nat.le_refl _) _
  have hl : ([UInt8.ofNat (97 + (m : Int).toNat)] : List UInt8).toArray = #[UInt8.ofNat (97 + (m : Int).toNat)] := rfl
  rw [hl]
  clear hl hu
  generalize UInt8.ofNat (97 + (m : Int).toNat) = le at *
  go_enter Tryd.func50, Tryd.ntmps50
  go_wp2_with fail
  refine (PK.out _).mono ?_; rintro e w_ ⟨rfl, rfl⟩
  go_wp2_with fail
  go_ret
  exact ⟨rfl, hb⟩

/-- raw numbers of steps that came in -/
structure TodosAt (w : World) (A : Option Addr) (l : List TodoL) : Prop where
  rdy : Rdy A l.length
  c0 : ∀ i (h : i < l.length), w.cell? ⟨blk A, ofs A + i * 5, none⟩ = some (.int .i64 l[i].kind)
  c1 : ∀ i (h : i < l.length), w.cell? ⟨blk A, ofs A + i * 5 + 1, none⟩ = some (.int .i64 l[i].dest)
  c2 : ∀ i (h : i < l.length), w.cell? ⟨blk A, ofs A + i * 5 + 2, none⟩ = some (.int .i64 l[i].a)
  c3 : ∀ i (h : i < l.length), w.cell? ⟨blk A, ofs A + i * 5 + 3, none⟩ = some (.int .i64 l[i].b)
  c4 : ∀ i (h : i < l.length), w.cell? ⟨blk A, ofs A + i * 5 + 4, none⟩ = some (.int .i64 l[i].name)
theorem TodosAt.below {w w' : World} {A : Option Addr} {l : List TodoL} (h : TodosAt w A l) {B : Nat} (hb : Below B w w') (hB : w.heap.size ≤ B) : TodosAt w' A l :=
  ⟨h.rdy, fun i hi => cell_keep hb hB (h.c0 i hi), fun i hi => cell_keep hb hB (h.c1 i hi), fun i hi => cell_keep hb hB (h.c2 i hi), fun i hi => cell_keep hb hB (h.c3 i hi), fun i hi => cell_keep hb hB (h.c4 i hi)⟩
def TodosArg (w : World) (A : Option Addr) (n : Nat) (l : List TodoL) : Prop := l.length = n ∧ l.length ≤ 9223372036854775807 ∧ TodosAt w A l ∧ ∀ t ∈ l, TodoOk t
theorem fieldsTodo : ∃ f0 f1 f2 f3 f4 : Field, Tryd.prog.underlying 54 = some (.struct #[f0, f1, f2, f3, f4]) ∧ f0.type = 3 ∧ f1.type = 3 ∧ f2.type = 3 ∧ f3.type = 3 ∧ f4.type = 3 ∧ oneCellFields Tryd.prog #[f0, f1, f2, f3, f4] = true ∧ Tryd.prog.cellsOf 54 = 5 :=
  ⟨_, _, _, _, _, Tryd.underlying54, rfl, rfl, rfl, rfl, rfl, by kernel_rfl, by kernel_rfl⟩
set_option maxRecDepth 100000 in
theorem open_todos_arg {H : Type} {enc : TypeId × Value → H} {W : World} {base : Nat} {v : Value} {d : DataW H} {p : List MemPlace}
    (hv : Value.okWide Tryd.prog W .any base 48 v) (h : DataW.Trod enc Tryd.prog W 0 (fun _ => true) true 48 v d p) :
    ∃ A n c l, v = .slice A n c ∧ TodosArg W A n l := by
  obtain ⟨A0, n0, c0, rfl⟩ := okWide_slice Tryd.underlying48 hv
  obtain ⟨fuel, hf⟩ := h
  obtain ⟨f0, f1, f2, f3, f4, hu, t0, t1, t2, t3, t4, ho, hc⟩ := fieldsTodo
  obtain ⟨A, n, c, hvv, hn, hr, hk⟩ := slice_structs Tryd.underlying48 hu ho hc (by simp) hf
  obtain ⟨l, hl, hp⟩ := list_of (fun i (a : TodoL) => W.cell? ⟨blk A, ofs A + i * 5, none⟩ = some (.int .i64 a.kind) ∧ W.cell? ⟨blk A, ofs A + i * 5 + 1, none⟩ = some (.int .i64 a.dest) ∧ W.cell? ⟨blk A, ofs A + i * 5 + 2, none⟩ = some (.int .i64 a.a) ∧ W.cell? ⟨blk A, ofs A + i * 5 + 3, none⟩ = some (.int .i64 a.b) ∧ W.cell? ⟨blk A, ofs A + i * 5 + 4, none⟩ = some (.int .i64 a.name) ∧ TodoOk a) n (by
    intro i hi
    obtain ⟨k, ys, _, hf⟩ := hk i hi
    obtain ⟨u0, y0, c0, _, h0⟩ := hf 0 f0 rfl
    obtain ⟨u1, y1, c1, _, h1⟩ := hf 1 f1 rfl
    obtain ⟨u2, y2, c2, _, h2⟩ := hf 2 f2 rfl
    obtain ⟨u3, y3, c3, _, h3⟩ := hf 3 f3 rfl
    obtain ⟨u4, y4, c4, _, h4⟩ := hf 4 f4 rfl
    rw [t0] at h0; rw [t1] at h1; rw [t2] at h2; rw [t3] at h3; rw [t4] at h4
    obtain ⟨a0, rfl, b0⟩ := open_int1 h0
    obtain ⟨a1, rfl, b1⟩ := open_int1 h1
    obtain ⟨a2, rfl, b2⟩ := open_int1 h2
    obtain ⟨a3, rfl, b3⟩ := open_int1 h3
    obtain ⟨a4, rfl, b4⟩ := open_int1 h4
    exact ⟨⟨a0, a1, a2, a3, a4⟩, c0, c1, c2, c3, c4, b0, b1, b2, b3, b4⟩)
  subst hl
  refine ⟨A, _, c, l, hvv, rfl, by simpa [maxLen] using hn, ⟨hr, fun i hi => (hp i hi).1, fun i hi => (hp i hi).2.1, fun i hi => (hp i hi).2.2.1, fun i hi => (hp i hi).2.2.2.1, fun i hi => (hp i hi).2.2.2.2.1⟩, fun a ha => ?_⟩
  obtain ⟨i, hi, rfl⟩ := List.getElem_of_mem ha
  exact (hp i hi).2.2.2.2.2
end Go.Proofs.YtkmnacchiagipaaDoor
