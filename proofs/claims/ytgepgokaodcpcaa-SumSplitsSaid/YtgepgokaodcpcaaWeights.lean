/- weights of raw numbers; Sum over appended lists. -/
import Derived.Test.YtgepgokaodcpcaaSlices
import Derived.Test.YtgepgokaodcpcaaArgInts
import Derived.LoopTactic
namespace Go.Proofs.Ytgepgokaodcpcaa
open Go.RowKit

theorem eltInt : Elt Try.prog 33 3 (.int .i64 0) 1 8 := ⟨Try.underlying33, by kernel_rfl, rfl, by omega⟩

/-- the ints of a list as cells -/
abbrev icells (xs : List Int) : List Value := xs.map (Value.int .i64)

def wts (xs : List Int) : List Int := (xs.take 100).map somew

theorem wts_snoc (xs : List Int) (k : Nat) (h : k < xs.length) : (xs.take (k + 1)).map somew = (xs.take k).map somew ++ [somew (xs.getD k 0)] := by
  rw [List.take_succ_eq_append_getElem h, List.map_append]; simp [List.getD, h]

set_option maxHeartbeats 1000000 in
theorem weights_any (A : Option Addr) (n c : Nat) (xs : List Int) (w : World) (hx : IntsArg w A n xs) :
    Calls Try.prog 20 #[.slice A n c] w fun e w' => ∃ v, e = .returned v ∧ w'.ownsRow w.heap.size 3 1 v (wts xs).length (icells (wts xs)) ∧ Below w.heap.size w w' := by
  obtain ⟨hl, hn, hA, hb⟩ := hx
  have rd : Rdy A n := by
    rcases hA with h0 | ⟨b, off, rfl, _⟩
    · rw [h0]; exact rdy_zero A
    · exact rdy_some _ _ _
  have hc : ∀ k, k < n → w.cell? ⟨blk A, ofs A + k, none⟩ = some (.int .i64 (xs.getD k 0)) := by
    intro k hk
    rcases hA with h0 | ⟨b, off, rfl, hc⟩
    · omega
    · exact hc k hk
  have HL := Lib.hid hl; clear hl
  have HB := Lib.hid hb; clear hb
  have HC := Lib.hid hc; clear hc hA
  unfold maxLen at hn
  go_enter Try.func20, Try.ntmps20
  go_wp2_with fail
  go_loopw [3, 4] (fun v i wr => ∃ k : Nat, k ≤ n ∧ k ≤ 100 ∧ i = .int .i64 k ∧ wr.ownsRow w.heap.size 3 1 v k (icells ((xs.take k).map somew)) ∧ Below w.heap.size w wr) (fun _ i _ => 100 - (intOf i).toNat)
  case atStart => exact ⟨0, by omega, by omega, rfl, World.ownsRow_nil _ _ _ _, (by repeat' (first | exact Below.refl _ _ | assumption | refine Below.drew ?_ | refine Below.alloc ?_ (by simp; try omega) _ | refine Below.setCell ?_ (by simp; try omega) _))⟩
  case round =>
    obtain ⟨k, hk, h1, rfl, hown, bel⟩ := hrel
    by_cases hh : k < n ∧ k < 100
    · obtain ⟨hkn, hk1⟩ := hh
      have hcell : wr.cell? ⟨blk A, ofs A + k, none⟩ = some (.int .i64 (xs.getD k 0)) := by
        have h1 := HC.out k hkn
        rw [bel.cell (World.block_lt_of_cell? _ _ h1), h1]
      have hx := HB.out k
      have HS := Lib.hid (wts_snoc xs k (by have := HL.out; omega))
      generalize xs.getD k 0 = x at *
      have g1 : (k : Int) < 100 := by omega
      have hsz := bel.size
      rename_i v _
      go_wp2_with (first
        | (go_at_call 16; refine (some_any _ _ (by omega) (by omega)).mono ?_; rintro e w' ⟨rfl, rfl⟩)
        | (at_builtin; refine wpList_app1 rfl _ _ rfl eltInt w.heap.size _ k _ rfl wr hown _ rfl rfl rfl (by simp [Value.oneCell']) (by omega) (by omega) hsz ?_; intro g cap w1 hown1 hg1 hat hlt))
      have bel1 := below_app bel hown hg1 (Nat.le_refl _) hsz
      clear hg1 bel hown hcell
      go_roundw
      case rel => exact ⟨k + 1, by omega, by omega, by go_num, by rw [HS.out]; simpa using hown1, bel1⟩
      case measure => simp [intOf]; omega
    · have hd : (xs.take k).map somew = wts xs := by
        unfold wts; have := HL.out
        by_cases h100 : k = 100
        · rw [h100]
        · rw [List.take_of_length_le (by omega), List.take_of_length_le (by omega)]
      have hlen : k = (wts xs).length := by rw [← hd]; simp; have := HL.out; omega
      have HD := Lib.hid hd; clear hd
      have HN := Lib.hid hlen; clear hlen
      have gn : ¬ ((k : Int) < n ∧ (k : Int) < 100) := by omega
      have HO := Lib.hid hown; clear hown
      go_wp2_with fail
      all_goals
        go_ret
        refine ⟨_, rfl, ?_, bel⟩
        have ho := HO.out
        rw [HD.out] at ho
        rw [← HN.out]
        exact ho
end Go.Proofs.Ytgepgokaodcpcaa
