/- sameInts. -/
import Derived.Test.YtikkmoleneioeaaSlices
import Derived.LoopTactic
import Derived.RegionTactic
import Derived.Deep.DeepCutAuto
namespace Go.Proofs.Ytikkmoleneioeaa
open Go.RowKit

set_option maxHeartbeats 1000000 in
theorem sameInts_any (A1 A2 : Option Addr) (c1 c2 : Nat) (x y : List Int) (w : World) (hx : Rd w A1 x.length 1 (icells x)) (hy : Rd w A2 y.length 1 (icells y)) (hlx : x.length ≤ 1000) :
    Calls Try.prog 30 #[.slice A1 x.length c1, .slice A2 y.length c2] w fun e w' => e = .returned (.bool (decide (x = y))) ∧ Below w.heap.size w w' := by
  have HX := Lib.hid hx; have HY := Lib.hid hy
  have rx := hx.rdy; have ry := hy.rdy
  clear hx hy
  by_cases hl : x.length = y.length
  · have e1 : ((x.length : Int) != (y.length : Int)) = false := by simp; omega
    have HL := Lib.hid hl; clear hl
    go_enter Try.func30, Try.ntmps30
    go_wp2_with fail
    go_loopw [5] (fun iv wr => ∃ k : Nat, k ≤ x.length ∧ iv = .int .i64 k ∧ x.take k = y.take k ∧ Below w.heap.size w wr) (fun iv _ => x.length - (intOf iv).toNat)
    case atStart => exact ⟨0, by omega, rfl, by simp, Below.refl _ _⟩
    case round =>
      obtain ⟨k, hk, rfl, heq, bel⟩ := hrel
      have hl := HL.out
      by_cases hlt : k < x.length
      · have d1 := rdi_cell (HX.out.below bel rfl) k hlt
        have d2 := rdi_cell (HY.out.below bel rfl) k (by omega)
        have l1 := World.block_lt_of_cell? _ _ d1
        have l2 := World.block_lt_of_cell? _ _ d2
        have hs : x.take (k + 1) = x.take k ++ [x[k]] := List.take_succ_eq_append_getElem hlt
        have hs2 : y.take (k + 1) = y.take k ++ [y[k]'(by omega)] := List.take_succ_eq_append_getElem (by omega)
        have i0 : (0 : Int) ≤ ↑k := by omega
        have i1 : (↑k : Int) < ↑x.length := by omega
        have i2 : (↑k : Int) < ↑y.length := by omega
        have hxk : x[k]? = some x[k] := List.getElem?_eq_getElem hlt
        have hyk : y[k]? = some (y[k]'(by omega)) := List.getElem?_eq_getElem (by omega)
        generalize x[k] = a at *
        generalize y[k]'(by omega) = b at *
        have HS := Lib.hid hs; have HS2 := Lib.hid hs2; have HQ := Lib.hid heq
        have HXK := Lib.hid hxk; have HYK := Lib.hid hyk
        clear hs hs2 heq hxk hyk hl
        by_cases hab : a = b
        · have e2 : (a != b) = false := by simp [hab]
          have HAB := Lib.hid hab; clear hab
          go_upto_region 6 with fail
          go_region
          all_goals
            go_wp2_with fail
            go_roundw
            case rel => exact ⟨k + 1, by omega, by go_num, by rw [HS.out, HS2.out, HQ.out, HAB.out], bel.drew⟩
            case measure => simp [intOf]; omega
        · have e2 : (a != b) = true := by simpa using hab
          have HAB := Lib.hid hab; clear hab
          go_upto_region 6 with fail
          go_region
          all_goals
            go_wp2_with fail
            go_ret
            refine ⟨?_, bel.drew⟩
            have : ¬ x = y := fun e => HAB.out (by have h1 := HXK.out; rw [e, HYK.out] at h1; exact (Option.some.inj h1).symm)
            simp [this]
      · obtain rfl : k = x.length := by omega
        have he : x = y := by rw [List.take_length, List.take_of_length_le (by omega)] at heq; exact heq
        have HE := Lib.hid he
        clear he heq hl
        go_wp2_with fail
        go_ret
        exact ⟨by simp [HE.out], bel⟩
  · have e1 : ((x.length : Int) != (y.length : Int)) = true := by simp; omega
    have hne : ¬ x = y := fun e => hl (by rw [e])
    have HN := Lib.hid hne
    clear hne
    go_enter Try.func30, Try.ntmps30
    go_wp2_with fail
    go_ret
    exact ⟨by simp [HN.out], Below.refl _ _⟩
end Go.Proofs.Ytikkmoleneioeaa
