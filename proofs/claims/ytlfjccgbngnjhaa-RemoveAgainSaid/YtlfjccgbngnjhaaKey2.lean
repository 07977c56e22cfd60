/- Keys that are pairs of numbers: [2]int. -/
import Derived.Test.YtlfjccgbngnjhaaMaps
namespace Go.Proofs.Ytlfjccgbngnjhaa
open Go.RowKit

abbrev key2 (k : Int × Int) : Value := .agg #[.int .i64 k.1, .int .i64 k.2]
theorem eq2 (a b c d : Int) (w : World) : (Op.equalIn 10000 62 (.agg #[.int .i64 a, .int .i64 b]) (.agg #[.int .i64 c, .int .i64 d])).run Try.prog w = .ok (a == c && b == d) w := by
  have u3 := Try.underlying3
  have a3 := Try.isAgg3
  have z3 := Try.sizeOf3
  rw [show (10000 : Nat) = 9999 + 1 from rfl, Op.equalIn]
  simp only [Sem.run_bind, run_underlying Try.underlying62, Result.andThen_ok]
  simp only [Std.Legacy.Range.forIn_eq_forIn_range', Std.Legacy.Range.size, Nat.sub_zero, Nat.add_sub_cancel, Nat.div_one, List.range'_succ, List.range'_zero, List.forIn_cons, List.forIn_nil]
  go_simp
  by_cases h1 : a = c <;> by_cases h2 : b = d <;> simp [h1, h2]
theorem keyOk2 : KeyOk Try.prog 62 key2 where
  chk e k w := by cases e <;> kernel_rfl
  eq a b w := by
    obtain ⟨a1, a2⟩ := a; obtain ⟨b1, b2⟩ := b
    show (Op.equalIn 10000 _ _ _).run _ w = _
    rw [eq2]
    by_cases h1 : a1 = b1 <;> by_cases h2 : a2 = b2 <;> simp [h1, h2]
  stays a := by obtain ⟨a1, a2⟩ := a; simp [Instr.sameBits]
  now a b := ⟨_, Try.underlying62, .inl rfl⟩
end Go.Proofs.Ytlfjccgbngnjhaa
