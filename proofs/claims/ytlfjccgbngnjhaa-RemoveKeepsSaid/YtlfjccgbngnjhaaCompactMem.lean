/- slices.CompactFunc at arcs: its closure, the builtin clear, stores into a row. -/
import Derived.Test.YtlfjccgbngnjhaaCompactPlain
import Derived.Test.YtlfjccgbngnjhaaArrSort
import Derived.Test.YtlfjccgbngnjhaaCheck
import Derived.Lib.SliceRun
namespace Go.Proofs.Ytlfjccgbngnjhaa
open Go.RowKit

theorem rd3 {w : World} {g : Nat} {x y z : Int} (h0 : w.cell? ⟨g, 0, none⟩ = some (.int .i64 x)) (h1 : w.cell? ⟨g, 1, none⟩ = some (.int .i64 y)) (h2 : w.cell? ⟨g, 2, none⟩ = some (.int .i64 z)) : Rd w (some ⟨g, 0, none⟩) 3 1 (icells [x, y, z]) := by
  refine ⟨rfl, rdy_some _ _ _, fun j hj => ?_⟩
  simp only [blk_some, ofs_some, Nat.zero_add]
  match j, hj with
  | 0, _ => exact h0
  | 1, _ => exact h1
  | 2, _ => exact h2

theorem wrap_in (n : Int) (h : -9223372036854775808 ≤ n ∧ n ≤ 9223372036854775807) : wrap64 n = n := by
  unfold wrap64; omega
set_option maxRecDepth 100000 in
set_option maxHeartbeats 1000000 in
theorem same3_any (a b : ArcL) (ha : BndA a) (hb : BndA b) (w : World) :
    Calls Try.prog 31 #[arcVal a, arcVal b] w fun e w' => e = .returned (.bool (alike3 a b)) ∧ Below w.heap.size w w' := by
  have q1 : wrap64 (a.inn - b.inn) = a.inn - b.inn := wrap_in _ (by unfold BndA at ha hb; omega)
  have q2 : wrap64 (a.out - b.out) = a.out - b.out := wrap_in _ (by unfold BndA at ha hb; omega)
  have q3 : wrap64 (a.to - b.to) = a.to - b.to := wrap_in _ (by unfold BndA at ha hb; omega)
  have HS := Lib.hid (alike3_or a b)
  generalize alike3 a b = r at *
  go_enter Try.func31, Try.ntmps31
  go_wp2_with (go_at_call 32; refine (Or_any _ 3 3 [a.inn - b.inn, a.out - b.out, a.to - b.to] _ (rd3 (by simp [go_sem]) (by simp [go_sem]) (by simp [go_sem])) (by omega)).mono ?_; rintro e w' ⟨rfl, rfl⟩)
  go_ret
  exact ⟨by rw [← HS.out]; rfl, (by repeat' (first | exact Below.refl _ _ | assumption | refine Below.drew ?_ | refine Below.alloc ?_ (by first | omega | (simp; done) | (simp; omega)) _ | refine Below.setCell ?_ (by first | omega | (simp; done) | (simp; omega)) _))⟩

theorem run_clear_arcs (w : World) (ty : TypeId) (b o n c : Nat) (hn : 0 < n)
    (hc : ∀ j, j < n * 4 → (w.cell? ⟨b, o + j, none⟩).isSome = true) (hf : ∀ j, j < n * 4 → w.frozen? ⟨b, o + j, none⟩ = false) :
    (Builtin.clear_ #[37] ty #[.slice (some ⟨b, o, none⟩) n c]).run Try.prog w = .ok (.tuple #[]) (w.setCells b o (List.replicate (n * 4) (.int .i64 0))) := by
  have hzc : (Builtin.zeroCells (Value.agg #[.int .i64 0, .int .i64 0, .int .i64 0, .int .i64 0]).cells n).toList = List.replicate (n * 4) (.int .i64 0) := by
    apply List.ext_getElem
    · simp [Builtin.zeroCells, Value.cells]
    · intro i h1 h2
      simp [Builtin.zeroCells, Value.cells]
      have hm : i % 4 = 0 ∨ i % 4 = 1 ∨ i % 4 = 2 ∨ i % 4 = 3 := by omega
      rcases hm with hm | hm | hm | hm <;> simp [hm]
  have hv : ∀ w, (zeroValue 42).run Try.prog w = .ok (.agg #[.int .i64 0, .int .i64 0, .int .i64 0, .int .i64 0]) w := fun w => by kernel_rfl
  have hst := run_storeCells_cells (P := Try.prog) b o (List.replicate (n * 4) (.int .i64 0)) 0 w (by simpa using hc) (by simpa using hf) (by intro v hv'; rw [List.eq_of_mem_replicate hv']; rfl)
  simp only [Nat.add_zero] at hst
  obtain ⟨m, rfl⟩ : ∃ m, n = m + 1 := ⟨n - 1, by omega⟩
  simp [Builtin.clear_, run_underlying Try.underlying37, hv, hzc, hst]

theorem setCells_row (g : Nat) : ∀ (vs : List Value) (o : Nat) (w : World) (cur : Array Value) (e : TypeId) (fz : Nat × Nat), w.heap[g]? = some (.cells cur e fz) →
    ∃ cur', (w.setCells g o vs).heap[g]? = some (.cells cur' e fz) ∧ cur'.size = cur.size ∧ ∀ i, i < o → cur'[i]? = cur[i]?
  | [], o, w, cur, e, fz, h => ⟨cur, h, rfl, fun _ _ => rfl⟩
  | v :: vs, o, w, cur, e, fz, h => by
    have h1 : (w.setCell ⟨g, o, none⟩ v).heap[g]? = some (.cells (cur.setIfInBounds o v) e fz) := by
      simp [World.setCell, Array.getElem?_modify, h]
    obtain ⟨cur', h2, h3, h4⟩ := setCells_row g vs (o + 1) _ _ _ _ h1
    refine ⟨cur', h2, by rw [h3]; simp, fun i hi => ?_⟩
    rw [h4 i (by omega), Array.getElem?_setIfInBounds_ne (by omega)]
theorem below_setCells {B g : Nat} (hg : B ≤ g) : ∀ (vs : List Value) (o : Nat) (w : World), Below B w (w.setCells g o vs)
  | [], _, _ => Below.refl _ _
  | v :: vs, o, w => ((Below.refl B w).setCell (p := ⟨g, o, none⟩) hg v).trans (below_setCells hg vs (o + 1) _)

theorem own_cut {w : World} {B g n c k : Nat} {L : List ArcL} (h : OwnArcs w B (.slice (some ⟨g, 0, none⟩) n c) L) (hk : k ≤ L.length) (vs : List Value) :
    OwnArcs (w.setCells g (k * 4) vs) B (.slice (some ⟨g, 0, none⟩) k c) (L.take k) := by
  have hl : (L.take k).length = k := by simp; omega
  rcases h.2 with ⟨h0, _⟩ | ⟨g', cap, cur, hv, hb, hg, h1, h2, h3, h4⟩
  · cases h0
  · injection hv with e1 e2 e3
    injection e1 with e1; injection e1 with e1
    subst e1; subst e3
    obtain ⟨cur', c1, c2, c3⟩ := setCells_row g vs (k * 4) w cur _ _ hg
    refine ⟨by rw [arcsCells_len], .inr ⟨g, c, cur', by rw [hl], hb, c1, by omega, h2, by rw [c2]; exact h3, ?_⟩⟩
    rw [hl]
    apply List.ext_getElem?
    intro i
    rcases Nat.lt_or_ge i (k * 4) with hi | hi
    · rw [List.getElem?_take_of_lt hi, Array.getElem?_toList, c3 i hi]
      have h5 : (cur.toList.take (L.length * 4))[i]? = (arcsCells L)[i]? := by rw [h4]
      rw [List.getElem?_take_of_lt (by omega), Array.getElem?_toList] at h5
      rw [h5]
      have h6 : arcsCells L = arcsCells (L.take k) ++ arcsCells (L.drop k) := by
        unfold arcsCells; rw [← List.flatMap_append, List.take_append_drop]
      rw [h6, List.getElem?_append_left (by rw [arcsCells_len, hl]; exact hi)]
    · rw [List.getElem?_take_eq_none (by omega), List.getElem?_eq_none (by rw [arcsCells_len, hl]; exact hi)]

theorem arcsCells_set (L : List ArcL) (k : Nat) (hk : k < L.length) (x : ArcL) : ((((arcsCells L).set (k * 4) (.int .i64 x.inn)).set (k * 4 + 1) (.int .i64 x.out)).set (k * 4 + 2) (.int .i64 x.wt)).set (k * 4 + 3) (.int .i64 x.to) = arcsCells (L.set k x) := by
  induction L generalizing k with
  | nil => simp at hk
  | cons p l ih =>
    cases k with
    | zero => simp [arcsCells, arcCells]
    | succ k =>
      have := ih k (by simpa using hk)
      have e0 : (k + 1) * 4 = k * 4 + 1 + 1 + 1 + 1 := by omega
      simp only [arcsCells, List.flatMap_cons, arcCells, List.cons_append, List.nil_append, List.set_cons_succ, e0] at this ⊢
      rw [this]
theorem own_setArc {w : World} {B g n c : Nat} {L : List ArcL} (h : OwnArcs w B (.slice (some ⟨g, 0, none⟩) n c) L) (k : Nat) (hk : k < L.length) (x : ArcL) :
    OwnArcs ((((w.setCell ⟨g, k * 4, none⟩ (.int .i64 x.inn)).setCell ⟨g, k * 4 + 1, none⟩ (.int .i64 x.out)).setCell ⟨g, k * 4 + 2, none⟩ (.int .i64 x.wt)).setCell ⟨g, k * 4 + 3, none⟩ (.int .i64 x.to)) B (.slice (some ⟨g, 0, none⟩) n c) (L.set k x) := by
  obtain ⟨hn, -⟩ := OwnArcs.at_ h
  subst hn
  unfold OwnArcs at h
  have h1 := (World.ownsRow.stored h (k * 4) (.int .i64 x.inn)).1
  have h2 := (World.ownsRow.stored h1 (k * 4 + 1) (.int .i64 x.out)).1
  have h3 := (World.ownsRow.stored h2 (k * 4 + 2) (.int .i64 x.wt)).1
  have h4 := (World.ownsRow.stored h3 (k * 4 + 3) (.int .i64 x.to)).1
  rw [arcsCells_set _ _ hk] at h4
  unfold OwnArcs
  rw [List.length_set]
  exact h4
end Go.Proofs.Ytlfjccgbngnjhaa
