/- backwards. -/
import Derived.Test.YtphoioejhdjbaaaIntArg
import Derived.Deep.AppendLies
namespace Go.Proofs.Ytphoioejhdjbaaa
open Go.RowKit

set_option maxHeartbeats 1000000 in
theorem backwards_any (A : Option Addr) (c : Nat) (xs : List Int) (w : World) (hx : Rd w A xs.length 1 (icells xs)) (hn : xs.length ≤ 1000) :
    Calls Try.prog 29 #[.slice A xs.length c] w fun e w' => ∃ A' c', e = .returned (.slice A' xs.length c') ∧ Rd w' A' xs.length 1 (icells xs.reverse) ∧ Below w.heap.size w w' := by
  have HX := Lib.hid hx
  have rd := hx.rdy
  clear hx
  go_enter Try.func29, Try.ntmps29
  go_wp2_with fail
  go_loopw [3, 4] (fun v i wr => ∃ k : Nat, k ≤ xs.length ∧ i = .int .i64 ((xs.length : Int) - 1 - k) ∧ wr.ownsRow w.heap.size 3 1 v k (icells (xs.reverse.take k)) ∧ Below w.heap.size w wr) (fun _ i _ => (intOf i + 1).toNat)
  case atStart => exact ⟨0, by omega, by simp, World.ownsRow_nil _ _ _ _, (by repeat' (first | exact Below.refl _ _ | assumption | refine Below.drew ?_ | refine Below.alloc ?_ (by first | omega | (simp; done) | (simp; omega)) _ | refine Below.setCell ?_ (by first | omega | (simp; done) | (simp; omega)) _))⟩
  case round =>
    obtain ⟨k, hk, rfl, hown, bel⟩ := hrel
    by_cases hlt : k < xs.length
    · have hcell := rdi_cell (HX.out.below bel rfl) (xs.length - 1 - k) (by omega)
      have hs : xs.reverse.take (k + 1) = xs.reverse.take k ++ [xs[xs.length - 1 - k]'(by omega)] := by
        rw [List.take_succ_eq_append_getElem (by simpa using hlt)]
        simp
      generalize xs[xs.length - 1 - k]'(by omega) = x at *
      have HS := Lib.hid hs
      obtain ⟨j, hj⟩ : ∃ j : Nat, (xs.length : Int) - 1 - k = j := ⟨xs.length - 1 - k, by omega⟩
      have hj2 : xs.length - 1 - k = j := by omega
      rw [hj2] at hcell
      rw [hj]
      have g0 : (0 : Int) ≤ (j : Int) := by omega
      have g1 : (j : Int) < (xs.length : Int) := by omega
      have hsz := bel.size
      clear hs hj2
      go_wp2_with (first
        | (at_builtin; refine wpList_app1 rfl _ _ rfl eltInt w.heap.size _ k _ rfl wr hown _ rfl wr.heap.size rfl rfl rfl (by simp [Value.oneCell']) (by omega) (by omega) hsz ?_; intro g cap w1 hown1 hg1 hat hlt))
      have bel1 := below_app bel hown hg1 (Nat.le_refl _) hsz
      clear hg1 bel hown hcell
      go_roundw
      case rel => exact ⟨k + 1, by omega, by go_num, by rw [HS.out]; simpa using hown1, bel1⟩
      case measure => simp [intOf]
    · obtain rfl : k = xs.length := by omega
      have e1 : ((xs.length : Int) - 1 - xs.length) = -1 := by omega
      rw [e1]
      have hd : xs.reverse.take xs.length = xs.reverse := List.take_of_length_le (by simp)
      rw [hd] at hown
      obtain ⟨A', c', rfl, -⟩ := own_form hown
      have HO := Lib.hid (Rd.of_own hown); clear hown
      go_wp2_with fail
      go_ret
      exact ⟨_, _, rfl, HO.out, bel⟩
end Go.Proofs.Ytphoioejhdjbaaa
