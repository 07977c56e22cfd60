/- turn.Relabel. -/
import Derived.Test.YtphoioejhdjbaaaTable
import Derived.Test.YtphoioejhdjbaaaEach2
import Derived.Deep.CutBlock
import Derived.Deep.DeepCutAuto
namespace Go.Proofs.Ytphoioejhdjbaaa
open Go.RowKit

def relabA (ins outs : List (Int × Int)) (a : ArcL) : ArcL := ⟨(assoc ins a.inn).getD a.inn, (assoc outs a.out).getD a.out, a.wt, a.to⟩
set_option maxRecDepth 100000 in
set_option maxHeartbeats 4000000 in
theorem relab_any (a : ArcL) (W : World) (p1 p2 M1 M2 : Nat) (ins outs : List (Int × Int)) (h1 : Blk W p1 #[.map (some M1)] 98) (h2 : Blk W p2 #[.map (some M2)] 98) (k1 : MapB W M1 keyI intV ins) (k2 : MapB W M2 keyI intV outs) :
    Calls Try.prog 56 #[arcV a, .pointer (some ⟨p1, 0, none⟩), .pointer (some ⟨p2, 0, none⟩)] W fun e w' => e = .returned (arcV (relabA ins outs a)) ∧ Below W.heap.size W w' := by
  have L1 := h1.lt; have L2 := h2.lt; have N1 := k1.lt; have N2 := k2.lt
  have HL1 := Lib.hid (fun W' (hb : Below W.heap.size W W') => run_lookup_x (k1.below hb (Nat.le_refl _)) keyOkI Try.underlying98 a.inn true (zeroIntR _))
  have HL2 := Lib.hid (fun W' (hb : Below W.heap.size W W') => run_lookup_x (k2.below hb (Nat.le_refl _)) keyOkI Try.underlying98 a.out true (zeroIntR _))
  have HR : Hid (relabA ins outs a = ⟨(assoc ins a.inn).getD a.inn, (assoc outs a.out).getD a.out, a.wt, a.to⟩) := Lib.hid rfl
  have b0 : Below W.heap.size W ((W.alloc (.cells #[.int .i64 a.inn, .int .i64 a.out, .int .i64 a.wt, .int .i64 a.to] 39)).alloc (.cells #[.int .i64 0, .int .i64 0, .int .i64 0, .int .i64 0] 39)) := (by repeat' (first | exact Below.refl _ _ | assumption | refine Below.drew ?_ | refine Below.alloc ?_ (by first | omega | (simp; done) | (simp; omega)) _ | refine Below.setCell ?_ (by first | omega | (simp; done) | (simp; omega)) _))
  have B1 := h1.step b0; have B2 := h2.step b0
  have B3 : Blk ((W.alloc (.cells #[.int .i64 a.inn, .int .i64 a.out, .int .i64 a.wt, .int .i64 a.to] 39)).alloc (.cells #[.int .i64 0, .int .i64 0, .int .i64 0, .int .i64 0] 39)) W.heap.size _ _ := (Blk.new _ _ _).alloc _
  have B4 : Blk ((W.alloc (.cells #[.int .i64 a.inn, .int .i64 a.out, .int .i64 a.wt, .int .i64 a.to] 39)).alloc (.cells #[.int .i64 0, .int .i64 0, .int .i64 0, .int .i64 0] 39)) (W.heap.size + 1) _ _ := Blk.new' (by simp)
  clear h1 h2 k1 k2
  go_enter Try.func56, Try.ntmps56
  go_upto_region 1 with fail
  have l1 := HL1.out _ b0
  generalize (W.alloc (.cells #[.int .i64 a.inn, .int .i64 a.out, .int .i64 a.wt, .int .i64 a.to] 39)).alloc (.cells #[.int .i64 0, .int .i64 0, .int .i64 0, .int .i64 0] 39) = w1 at *
  have q1 := B1.cell; have q3 := B3.cell; have f3 := B3.froz; have m1 := B1.lt; have m3 := B3.lt
  have HB2 := Lib.hid B2; have HB4 := Lib.hid B4; have HB3 := Lib.hid B3
  have q2 := B2.cell; have q4 := B4.cell; have f4 := B4.froz; have m2 := B2.lt; have m4 := B4.lt
  have n1 : p1 ≠ W.heap.size := by omega
  have n2 : p2 ≠ W.heap.size := by omega
  clear HB2 HB3 HB4 HL1
  cases hA : assoc ins a.inn with
  | none =>
    rw [hA] at l1
    simp only [Option.map_none, Option.getD_none, Option.isSome_none] at l1
    have HA := Lib.hid hA
    clear hA
    have b1 : Below W.heap.size W w1 := b0
    have l2 := HL2.out _ b1
    cases hB : assoc outs a.out with
    | none =>
      rw [hB] at l2
      simp only [Option.map_none, Option.getD_none, Option.isSome_none] at l2
      have HB := Lib.hid hB
      clear hB b1
      go_wp2_with fail
      refine bodyPost_ret (v := .agg #[.int .i64 a.inn, .int .i64 a.out, .int .i64 a.wt, .int .i64 a.to]) (by simp [results, Try.results56, go_sem, *]) rfl ⟨by rw [HR.out, HA.out, HB.out]; rfl, ?_⟩
      iterate 4 (refine Below.setCell ?_ (by simp) _)
      exact b0
    | some y =>
      rw [hB] at l2
      simp only [Option.map_some, Option.getD_some, Option.isSome_some] at l2
      have HB := Lib.hid hB
      clear hB b1
      go_wp2_with fail
      refine bodyPost_ret (v := .agg #[.int .i64 a.inn, .int .i64 y, .int .i64 a.wt, .int .i64 a.to]) (by simp [results, Try.results56, go_sem, *]) rfl ⟨by rw [HR.out, HA.out, HB.out]; rfl, ?_⟩
      iterate 5 (refine Below.setCell ?_ (by simp) _)
      exact b0
  | some x =>
    rw [hA] at l1
    simp only [Option.map_some, Option.getD_some, Option.isSome_some] at l1
    have HA := Lib.hid hA
    clear hA
    have b1 : Below W.heap.size W (w1.setCell ⟨W.heap.size, 0, none⟩ (.int .i64 x)) := (b0.setCell (by simp) _)
    have l2 := HL2.out _ b1
    cases hB : assoc outs a.out with
    | none =>
      rw [hB] at l2
      simp only [Option.map_none, Option.getD_none, Option.isSome_none] at l2
      have HB := Lib.hid hB
      clear hB b1
      go_wp2_with fail
      refine bodyPost_ret (v := .agg #[.int .i64 x, .int .i64 a.out, .int .i64 a.wt, .int .i64 a.to]) (by simp [results, Try.results56, go_sem, *]) rfl ⟨by rw [HR.out, HA.out, HB.out]; rfl, ?_⟩
      iterate 5 (refine Below.setCell ?_ (by simp) _)
      exact b0
    | some y =>
      rw [hB] at l2
      simp only [Option.map_some, Option.getD_some, Option.isSome_some] at l2
      have HB := Lib.hid hB
      clear hB b1
      go_wp2_with fail
      refine bodyPost_ret (v := .agg #[.int .i64 x, .int .i64 y, .int .i64 a.wt, .int .i64 a.to]) (by simp [results, Try.results56, go_sem, *]) rfl ⟨by rw [HR.out, HA.out, HB.out]; rfl, ?_⟩
      iterate 6 (refine Below.setCell ?_ (by simp) _)
      exact b0
end Go.Proofs.Ytphoioejhdjbaaa
