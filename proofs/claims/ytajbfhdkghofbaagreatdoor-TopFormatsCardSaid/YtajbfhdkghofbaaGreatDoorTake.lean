/- take: two bytes as a number. -/
import Derived.Test.YtajbfhdkghofbaaGreatDoorSum
import Derived.Test.YtajbfhdkghofbaaGreatDoorMBox
import Derived.LoopTactic
import Derived.IntWalk
import Derived.Laws.BitsLemmas
namespace Go.Proofs.YtajbfhdkghofbaaGreatDoor
open Go.RowKit

theorem or_bytes (x y : Int) (hx0 : 0 ≤ x) (hx1 : x < 256) (hy0 : 0 ≤ y) (hy1 : y < 256) : bits .or .i64 (x * 256) y = x * 256 + y := by
  obtain ⟨a, rfl⟩ : ∃ a : Nat, x = a := ⟨x.toNat, by omega⟩
  obtain ⟨b, rfl⟩ : ∃ b : Nat, y = b := ⟨y.toNat, by omega⟩
  have h := (bits_nat .i64 16 (by decide) (fun n h0 h1 => IntWalk.i64_in _ (by omega)) (a * 256) b (by omega) (by omega)).2
  have e : ((a : Int) * 256) = ((a * 256 : Nat) : Int) := by simp
  rw [e, h]
  have h2 : a * 256 ||| b = a * 256 + b := by
    have := Nat.two_pow_add_eq_or_of_lt (i := 8) (b := b) (by omega) a
    rw [show 2 ^ 8 = 256 from rfl, Nat.mul_comm 256 a] at this
    exact this.symm
  rw [h2]; simp

theorem grown_set (w : World) (b o : Nat) (u : Value) : w.grownBy (w.setCell ⟨b, o, none⟩ u) (some b) :=
  ⟨rfl, rfl, rfl, by simp [World.setCell], fun k _ hne => Below.heap_setCell _ _ _ _ (by simpa using hne)⟩
set_option maxRecDepth 100000 in
set_option maxHeartbeats 4000000 in
theorem take2_any (tb g o c : Nat) (x y : Int) (w : World) (hb : Blk w tb #[.slice (some ⟨g, o, none⟩) 2 c] 62) (hc : 2 ≤ c) (c0 : w.cell? ⟨g, o, none⟩ = some (.int .u8 x)) (c1 : w.cell? ⟨g, o + 1, none⟩ = some (.int .u8 y))
    (hx0 : 0 ≤ x) (hx1 : x < 256) (hy0 : 0 ≤ y) (hy1 : y < 256) :
    Calls Tryz.prog 19 #[.pointer (some ⟨tb, 0, none⟩), .int .i64 2] w fun e w' => e = .returned (.int .i64 (x * 256 + y)) ∧ w.grownBy w' (some tb) := by
  have kb := hb.cell; have lb := hb.lt; have fb := hb.froz
  have lg := World.block_lt_of_cell? _ _ c0
  have OR := or_bytes x y hx0 hx1 hy0 hy1
  have OR0 : bits .or .i64 0 x = x := by have := or_bytes 0 x (by omega) (by omega) hx0 hx1; simpa using this
  go_enter Tryz.func19, Tryz.ntmps19
  go_wp2_with fail
  go_loopw [24, 5] (fun jv nv wr => ∃ j : Nat, j ≤ 2 ∧ jv = .int .i64 j ∧ nv = .int .i64 (if j = 0 then 0 else if j = 1 then x else x * 256 + y) ∧ wr = w) (fun jv _ _ => 2 - (intOf jv).toNat)
  case atStart => exact ⟨0, by omega, rfl, rfl, rfl⟩
  case round =>
    obtain ⟨j, hj, rfl, rfl, rfl⟩ := hrel
    have hc3 : j = 0 ∨ j = 1 ∨ j = 2 := by omega
    rcases hc3 with rfl | rfl | rfl
    · go_wp2_with fail
      go_roundw
      case rel => exact ⟨1, by omega, by go_num, by simp, by trivial⟩
      case measure => simp [intOf]
    · go_wp2_with fail
      go_roundw
      case rel => exact ⟨2, by omega, by go_num, by simp, by trivial⟩
      case measure => simp [intOf]
    · go_wp2_with fail
      all_goals
        go_ret
        exact ⟨rfl, grown_set _ _ _ _⟩
end Go.Proofs.YtajbfhdkghofbaaGreatDoor
