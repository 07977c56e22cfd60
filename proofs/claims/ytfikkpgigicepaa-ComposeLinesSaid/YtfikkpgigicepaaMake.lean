/- make of a slice whose length is a letter: the run's equation. -/
import Derived.Test.YtfikkpgigicepaaSlices
namespace Go.Proofs.Ytfikkpgigicepaa
open Go.RowKit

theorem run_make_elt {P : Program} {t e : TypeId} {z : Value} {size bytes : Nat} (E : Elt P t e z size bytes) (w : World) (n : Nat) (hn : n ≤ 10000) (hs : size ≤ 100) (hb : bytes ≤ 1000) :
    (Instr.makeSlice t (.int .i64 n) (.int .i64 n)).run P w = .ok (.slice (some ⟨w.heap.size, 0, none⟩) n n) (w.alloc (.cells (madeCells z.cells (n * size)) e)) := by
  obtain ⟨i, hi, hz0, hz1, hz2⟩ := info_parts E.info
  have h1 : n * size ≤ 10000 * 100 := Nat.mul_le_mul hn hs
  have h2 : bytes * n ≤ 1000 * 10000 := Nat.mul_le_mul hb hn
  have h := run_makeSlice (P := P) w t e i z E.ht hi hz0 .i64 .i64 n n (by omega) (by omega) (by rw [hz1]; simp; omega) (by rw [hz2, ← Int.natCast_mul]; omega) (by omega)
  rw [h, hz1]
  simp
theorem made_at (v : Value) (n : Nat) : madeCells #[v] n = (List.replicate n v).toArray := by
  apply Array.ext
  · simp [madeCells]
  · intro i h1 h2
    simp [madeCells, Nat.mod_one]
end Go.Proofs.Ytfikkpgigicepaa
