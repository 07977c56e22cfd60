/- Keys that are triples: three numbers. -/
import Derived.Test.YtikkmoleneioeaaMaps
import Derived.Test.YtikkmoleneioeaaComposePlain
namespace Go.Proofs.Ytikkmoleneioeaa
open Go.RowKit

theorem zeroIntT (w : World) : (zeroValue 3).run Try.prog w = .ok (.int .i64 0) w := by kernel_rfl
abbrev triV (t : TriL) : Value := .agg #[.int .i64 t.a, .int .i64 t.b, .int .i64 t.f]
theorem eqTri (a b c a' b' c' : Int) (w : World) : (Op.equalIn 10000 83 (.agg #[.int .i64 a, .int .i64 b, .int .i64 c]) (.agg #[.int .i64 a', .int .i64 b', .int .i64 c'])).run Try.prog w = .ok (a == a' && (b == b' && c == c')) w := by
  have u3 := Try.underlying3
  have a3 := Try.isAgg3
  have z3 := Try.sizeOf3
  rw [show (10000 : Nat) = 9999 + 1 from rfl, run_equalIn_struct w _ _ _ _ (by kernel_rfl) (by kernel_rfl)]
  simp only [Program.fieldsOf, Try.underlying83]
  simp [Op.eqFields, part, go_sem, u3, a3, z3]
  by_cases h1 : a = a' <;> by_cases h2 : b = b' <;> by_cases h3 : c = c' <;> simp [h1, h2, h3]
theorem keyOkTri : KeyOk Try.prog 83 triV where
  chk e k w := by cases e <;> kernel_rfl
  eq a b w := by
    obtain ⟨a1, a2, a3⟩ := a; obtain ⟨b1, b2, b3⟩ := b
    show (Op.equalIn 10000 _ _ _).run _ w = _
    rw [eqTri]
    by_cases h1 : a1 = b1 <;> by_cases h2 : a2 = b2 <;> by_cases h3 : a3 = b3 <;> simp [h1, h2, h3] <;> omega
  stays a := by obtain ⟨a1, a2, a3⟩ := a; simp [Instr.sameBits]
  now a b := ⟨_, Try.underlying83, .inl rfl⟩
end Go.Proofs.Ytikkmoleneioeaa
