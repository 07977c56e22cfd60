/- Keys that are pairs of numbers: [2]int. -/
import Derived.Test.YtkmnacchiagipaaDoorMaps
namespace Go.Proofs.YtkmnacchiagipaaDoor
open Go.RowKit

abbrev key2 (k : Int × Int) : Value := .agg #[.int .i64 k.1, .int .i64 k.2]
theorem eq2 (a b c d : Int) (w : World) : (Op.equalIn 10000 151 (.agg #[.int .i64 a, .int .i64 b]) (.agg #[.int .i64 c, .int .i64 d])).run Tryd.prog w = .ok (a == c && b == d) w := by
  have u3 := Tryd.underlying3
  have a3 := Tryd.isAgg3
  have z3 := Tryd.sizeOf3
  rw [show (10000 : Nat) = 9999 + 1 from rfl, Op.equalIn]
  simp only [Sem.run_bind, run_underlying Tryd.underlying151, Result.andThen_ok]
  simp only [Std.Legacy.Range.forIn_eq_forIn_range', Std.Legacy.Range.size, Nat.sub_zero, Nat.add_sub_cancel, Nat.div_one, List.range'_succ, List.range'_zero, List.forIn_cons, List.forIn_nil]
  go_simp
  by_cases h1 : a = c <;> by_cases h2 : b = d <;> simp [h1, h2]
theorem keyOk2 : KeyOk Tryd.prog 151 key2 where
  chk e k w := by cases e <;> kernel_rfl
  eq a b w := by
    obtain ⟨a1, a2⟩ := a; obtain ⟨b1, b2⟩ := b
    show (Op.equalIn 10000 _ _ _).run _ w = _
    rw [eq2]
    by_cases h1 : a1 = b1 <;> by_cases h2 : a2 = b2 <;> simp [h1, h2]
  stays a := by obtain ⟨a1, a2⟩ := a; simp [Instr.sameBits]
  now a b := ⟨_, Tryd.underlying151, .inl rfl⟩
end Go.Proofs.YtkmnacchiagipaaDoor
