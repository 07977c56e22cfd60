/- Slices of ints that are read: lesser, Plus, Sum, plus. -/
import Derived.Test.YtgepgokaodcpcaaNum
import Derived.Below
import Derived.LoopTactic
namespace Go.Proofs.Ytgepgokaodcpcaa
open Go.ChangeShapes Go.WideShapes Go.ChangeAt Go.RowKit

/-- v is a slice that reads as xs -/
def IntsAt (w : World) (v : Value) (xs : List Int) : Prop :=
  (xs = [] ∧ ∃ A c, v = .slice A 0 c) ∨
  ∃ b off c, v = .slice (some ⟨b, off, none⟩) xs.length c ∧ ∀ i, i < xs.length → w.cell? ⟨b, off + i, none⟩ = some (.int .i64 (xs.getD i 0))

def leastOf (xs : List Int) : Int := xs.foldl min 1000000001

theorem getD_at (xs : List Int) (k : Nat) (h : k < xs.length) : xs.getD k 0 = xs[k] := by simp [List.getD, h]

theorem leastOf_snoc (xs : List Int) (k : Nat) (h : k < xs.length) : leastOf (xs.take (k + 1)) = min (leastOf (xs.take k)) (xs.getD k 0) := by
  unfold leastOf
  rw [List.take_succ_eq_append_getElem h, List.foldl_append]
  simp [List.getD, h]

theorem lesser_any (v : Value) (xs : List Int) (w : World) (hv : IntsAt w v xs) (hl : xs.length ≤ 4000000000) :
    Calls Try.prog 46 #[v] w fun e w' => e = .returned (.int .i64 (leastOf xs)) ∧ w = w' := by
  rcases hv with ⟨rfl, A, c, rfl⟩ | ⟨b, off, c, rfl, hc⟩
  · go_enter Try.func46, Try.ntmps46
    go_wp2
    refine wp_loop_rounds 1 ?_
    rw [rounds_succ]
    go_wp2
    go_ret
    exact ⟨rfl, rfl⟩
  · have HC := Lib.hid hc; clear hc
    go_enter Try.func46, Try.ntmps46
    go_wp2
    go_loop [3, 8] (fun m i => ∃ k : Nat, k ≤ xs.length ∧ i = .int .i64 k ∧ m = .int .i64 (leastOf (xs.take k))) (fun _ i => xs.length - (intOf i).toNat)
    case atStart => exact ⟨0, by omega, rfl, rfl⟩
    case round =>
      obtain ⟨k, hk, rfl, rfl⟩ := hrel
      by_cases hlt : k < xs.length
      · have hcell := HC.out k hlt
        have HS := Lib.hid (leastOf_snoc xs k hlt)
        go_wp2
        go_round
        case rel => exact ⟨k + 1, by omega, by go_num, congrArg (Value.int IntKind.i64) (by rw [HS.out, getD_at xs k hlt]; omega)⟩
        case measure => simp [intOf]; omega
      · go_wp2
        go_ret
        exact ⟨congrArg (fun l => Ending.returned (.int .i64 (leastOf l))) (List.take_of_length_le (by omega)), rfl⟩

theorem leastOf_two (a b : Int) (ha : a ≤ 1000000001) : leastOf [a, b] = min a b := by
  simp [leastOf]; omega

theorem intsAt_two (w : World) (a b : Int) (t : TypeId) : IntsAt (w.alloc (.cells #[.int .i64 a, .int .i64 b] t)) (.slice (some ⟨w.heap.size, 0, none⟩) 2 2) [a, b] := by
  refine .inr ⟨w.heap.size, 0, 2, rfl, fun i hi => ?_⟩
  match i, hi with
  | 0, _ => simp [go_sem]
  | 1, _ => simp [go_sem]

theorem Plus_ok (a b : Int) (w : World) (a1 : 0 ≤ a) (a2 : a ≤ 1000000001) (b1 : 0 ≤ b) (b2 : b ≤ 1000000001) :
    Calls Try.prog 45 #[.int .i64 a, .int .i64 b] w fun e w' => e = .returned (.tuple #[.int .i64 (min a b), .int .i64 0]) ∧ Below w.heap.size w w' := by
  have L := Lib.hid (lesser_any _ _ _ (intsAt_two w a b 3) (by simp))
  rw [leastOf_two a b a2] at L
  go_enter Try.func45, Try.ntmps45
  go_wp2_with (go_at_call 43; refine (may_yes _ _ (by omega) (by omega)).mono ?_; rintro e w' ⟨rfl, rfl⟩)
  refine L.out.mono ?_; rintro e w' ⟨rfl, rfl⟩
  go_wp2_with fail
  go_ret2
  exact ⟨rfl, (Below.refl _ _).alloc (Nat.le_refl _) _⟩

theorem Below.step {a b c : World} (h : Below a.heap.size a b) (k : Below b.heap.size b c) : Below a.heap.size a c := h.trans (k.mono h.size)

/-- the lesser of two weights (closed to simp) -/
def mn (a b : Int) : Int := min a b
/-- a weight -/
def Wt (a : Int) : Prop := 0 ≤ a ∧ a ≤ 1000000001
theorem wt_mn {a b : Int} (ha : Wt a) (hb : Wt b) : Wt (mn a b) := by unfold Wt mn at *; omega

theorem plus_any (a b : Int) (w : World) (ha : Wt a) (hb : Wt b) :
    Calls Try.prog 19 #[.int .i64 a, .int .i64 b] w fun e w' => e = .returned (.int .i64 (mn a b)) ∧ Below w.heap.size w w' := by
  obtain ⟨a1, a2⟩ := ha
  obtain ⟨b1, b2⟩ := hb
  go_enter Try.func19, Try.ntmps19
  go_wp2_with fail
  refine (Plus_ok a b w a1 a2 b1 b2).mono ?_; rintro e w' ⟨rfl, hb⟩
  go_wp2_with fail
  go_ret
  exact ⟨rfl, hb⟩

theorem may_any (a : Int) (w : World) (ha : Wt a) : Calls Try.prog 43 #[.int .i64 a] w fun e w' => e = .returned (.bool true) ∧ w = w' := may_yes a w ha.1 ha.2

theorem Sum_ok (v : Value) (xs : List Int) (w : World) (hv : IntsAt w v xs) (hl : xs.length ≤ 400) (hw : ∀ k, k < xs.length → Wt (xs.getD k 0)) :
    Calls Try.prog 21 #[v] w fun e w' => e = .returned (.tuple #[.int .i64 (leastOf xs), .int .i64 0]) ∧ w = w' := by
  have L := Lib.hid (lesser_any v xs w hv (by omega))
  have HW := Lib.hid hw; clear hw
  rcases hv with ⟨rfl, A, c, rfl⟩ | ⟨b, off, c, rfl, hc⟩
  · go_enter Try.func21, Try.ntmps21
    go_wp2_with fail
    refine wp_loop_rounds 1 ?_
    rw [rounds_succ]
    go_wp2_with fail
    refine L.out.mono ?_; rintro e w' ⟨rfl, rfl⟩
    go_wp2_with fail
    go_ret2
    exact ⟨rfl, rfl⟩
  · have HC := Lib.hid hc; clear hc
    have hgt : decide ((400 : Int) < (xs.length : Int)) = false := by simp; omega
    go_enter Try.func21, Try.ntmps21
    go_wp2_with fail
    go_loop [11] (fun i => ∃ k : Nat, k ≤ xs.length ∧ i = .int .i64 k) (fun i => xs.length - (intOf i).toNat)
    case atStart => exact ⟨0, by omega, rfl⟩
    case round =>
      obtain ⟨k, hk, rfl⟩ := hrel
      by_cases hlt : k < xs.length
      · have hcell := HC.out k hlt
        have hw := HW.out k hlt
        rw [getD_at xs k hlt] at hw hcell
        go_wp2_with fail
        refine (may_any _ _ hw).mono ?_; rintro e w' ⟨rfl, rfl⟩
        go_wp2_with fail
        go_round
        case rel => exact ⟨k + 1, by omega, by go_num⟩
        case measure => simp [intOf]; omega
      · go_wp2_with fail
        refine L.out.mono ?_; rintro e w' ⟨rfl, rfl⟩
        go_wp2_with fail
        go_ret2
        exact ⟨rfl, rfl⟩
end Go.Proofs.Ytgepgokaodcpcaa
