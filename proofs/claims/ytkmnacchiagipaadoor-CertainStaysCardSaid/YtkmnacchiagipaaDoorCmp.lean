/- cmp.Compare, cmp.Or, core.order, slices.IsSortedFunc at arcs. -/
import Derived.Test.YtkmnacchiagipaaDoorSlices
import Derived.Test.YtkmnacchiagipaaDoorBuild
import Derived.Deep.DeepCutAuto
import Derived.Deep.CutBlock
import Derived.Deep.RegionHeld3
namespace Go.Proofs.YtkmnacchiagipaaDoor
open Go.RowKit

def cmp3 (a b : Int) : Int := if a < b then -1 else if b < a then 1 else 0
theorem cmp3_b (a b : Int) : -1 ≤ cmp3 a b ∧ cmp3 a b ≤ 1 := by unfold cmp3; split <;> (try split) <;> omega

theorem isNaN_any (a : Int) (w : World) : Calls Tryd.prog 130 #[.int .i64 a] w fun e w' => e = .returned (.bool false) ∧ w = w' := by
  go_enter Tryd.func130, Tryd.ntmps130
  go_wp2
  go_ret
  exact ⟨rfl, rfl⟩

theorem Compare_any (a b : Int) (w : World) : Calls Tryd.prog 95 #[.int .i64 a, .int .i64 b] w fun e w' => e = .returned (.int .i64 (cmp3 a b)) ∧ w = w' := by
  by_cases h : a < b
  · have hp : cmp3 a b = -1 := by unfold cmp3; rw [if_pos h]
    rw [hp]; clear hp
    go_enter Tryd.func95, Tryd.ntmps95
    go_wp2_with (go_at_call 130; refine (isNaN_any _ _).mono ?_; rintro e w' ⟨rfl, rfl⟩)
    go_ret
    exact ⟨rfl, rfl⟩
  · by_cases h2 : b < a
    · have hp : cmp3 a b = 1 := by unfold cmp3; rw [if_neg h, if_pos h2]
      rw [hp]; clear hp
      go_enter Tryd.func95, Tryd.ntmps95
      go_wp2_with (go_at_call 130; refine (isNaN_any _ _).mono ?_; rintro e w' ⟨rfl, rfl⟩)
      go_ret
      exact ⟨rfl, rfl⟩
    · have hp : cmp3 a b = 0 := by unfold cmp3; rw [if_neg h, if_neg h2]
      rw [hp]; clear hp
      go_enter Tryd.func95, Tryd.ntmps95
      go_wp2_with (go_at_call 130; refine (isNaN_any _ _).mono ?_; rintro e w' ⟨rfl, rfl⟩)
      go_ret
      exact ⟨rfl, rfl⟩

/-- the first that is not 0 -/
def firstOf : List Int → Int
  | [] => 0
  | x :: l => if x = 0 then firstOf l else x

theorem firstOf_drop (l : List Int) (k : Nat) (h : k < l.length) (hz : l[k] = 0) : firstOf (l.drop k) = firstOf (l.drop (k + 1)) := by
  rw [List.drop_eq_getElem_cons h, firstOf, if_pos hz]
theorem firstOf_hit (l : List Int) (k : Nat) (h : k < l.length) (hz : l[k] ≠ 0) : firstOf (l.drop k) = l[k] := by
  rw [List.drop_eq_getElem_cons h, firstOf, if_neg hz]

theorem Or_any (A : Option Addr) (n c : Nat) (xs : List Int) (w : World) (h : Rd w A n 1 (icells xs)) (hl : n ≤ 1000000) :
    Calls Tryd.prog 58 #[.slice A n c] w fun e w' => e = .returned (.int .i64 (firstOf xs)) ∧ w = w' := by
  have HC := Lib.hid (rdi_cell h)
  have HL := Lib.hid (rdi_len h)
  have rd := h.rdy
  clear h
  go_enter Tryd.func58, Tryd.ntmps58
  go_wp2
  go_loop [8] (fun i => ∃ k : Nat, k ≤ n ∧ i = .int .i64 k ∧ Hid (firstOf (xs.drop k) = firstOf xs)) (fun i => n - (intOf i).toNat)
  case atStart => exact ⟨0, by omega, rfl, Lib.hid rfl⟩
  case round =>
    obtain ⟨k, hk, rfl, HF⟩ := hrel
    by_cases hln : k < n
    · have hlt : k < xs.length := by have := HL.out; omega
      have hcell := HC.out k hlt
      by_cases hz : xs[k] = 0
      · have HD := Lib.hid (firstOf_drop xs k hlt hz)
        have hb : (xs[k] != 0) = false := by simp [hz]
        generalize xs[k] = x at *
        clear hz
        go_wp2
        go_round
        case rel => exact ⟨k + 1, by omega, by go_num, Lib.hid (by rw [← HD.out]; exact HF.out)⟩
        case measure => simp [intOf]; omega
      · have HD := Lib.hid (firstOf_hit xs k hlt hz)
        have hb : (xs[k] != 0) = true := by simp [hz]
        generalize xs[k] = x at *
        clear hz
        go_wp2
        go_ret
        exact ⟨congrArg (fun y => Ending.returned (.int .i64 y)) (by rw [← HF.out, HD.out]), rfl⟩
    · have h0 : firstOf xs = 0 := by rw [← HF.out, List.drop_eq_nil_of_le (by have := HL.out; omega)]; rfl
      have H0 := Lib.hid h0; clear h0
      go_wp2
      go_ret
      exact ⟨congrArg (fun y => Ending.returned (.int .i64 y)) H0.out.symm, rfl⟩

/-- the order of arcs -/
def ordA (a b : ArcL) : Int := firstOf [cmp3 a.inn b.inn, cmp3 a.out b.out, cmp3 a.to b.to, cmp3 a.wt b.wt]

theorem rd_four (w : World) (G : Nat) (hG : w.heap.size = G) (x y z u : Int) (t : TypeId) : Rd (w.alloc (.cells #[.int .i64 x, .int .i64 y, .int .i64 z, .int .i64 u] t)) (some ⟨G, 0, none⟩) 4 1 (icells [x, y, z, u]) := by
  subst hG
  refine ⟨rfl, rdy_some _ _ _, fun j hj => ?_⟩
  simp only [blk_some, ofs_some, Nat.zero_add]
  match j, hj with
  | 0, _ => simp [go_sem]
  | 1, _ => simp [go_sem]
  | 2, _ => simp [go_sem]
  | 3, _ => simp [go_sem]

theorem Rd.drew' {w : World} {A : Option Addr} {n size : Nat} {xs : List Value} (h : Rd w A n size xs) : Rd w.drew A n size xs := ⟨h.len, h.rdy, h.cell⟩

abbrev arcVal (a : ArcL) : Value := .agg #[.int .i64 a.inn, .int .i64 a.out, .int .i64 a.wt, .int .i64 a.to]

set_option maxRecDepth 100000 in
set_option maxHeartbeats 4000000 in
theorem order_any (a b : ArcL) (w : World) : Calls Tryd.prog 61 #[arcVal a, arcVal b] w fun e w' => e = .returned (.int .i64 (ordA a b)) ∧ Below w.heap.size w w' := by
  have hO : ordA a b = firstOf [cmp3 a.inn b.inn, cmp3 a.out b.out, cmp3 a.to b.to, cmp3 a.wt b.wt] := rfl
  have HO := Lib.hid hO; clear hO
  go_enter Tryd.func61, Tryd.ntmps61
  go_wp2_with fail
  go_region_held3 (fun w' => w'.cell? ⟨w.heap.size, 0, none⟩ = some (.int .i64 a.inn) ∧ w'.cell? ⟨w.heap.size, 1, none⟩ = some (.int .i64 a.out) ∧ w'.cell? ⟨w.heap.size, 2, none⟩ = some (.int .i64 a.wt) ∧ w'.cell? ⟨w.heap.size, 3, none⟩ = some (.int .i64 a.to) ∧ w'.cell? ⟨w.heap.size + 1, 0, none⟩ = some (.int .i64 b.inn) ∧ w'.cell? ⟨w.heap.size + 1, 1, none⟩ = some (.int .i64 b.out) ∧ w'.cell? ⟨w.heap.size + 1, 2, none⟩ = some (.int .i64 b.wt) ∧ w'.cell? ⟨w.heap.size + 1, 3, none⟩ = some (.int .i64 b.to)) (go_keep)
    (first | (go_at_call 95; refine (Compare_any _ _ _).mono ?_; rintro e w' ⟨rfl, rfl⟩) | (go_at_call 58; refine (Or_any _ 4 4 [cmp3 a.inn b.inn, cmp3 a.out b.out, cmp3 a.to b.to, cmp3 a.wt b.wt] _ (by first | exact rd_four _ _ (by simp) _ _ _ _ _ | exact (rd_four _ _ (by simp) _ _ _ _ _).drew') (by omega)).mono ?_; rintro e w' ⟨rfl, rfl⟩))
  all_goals
    go_wp2_with fail
    go_ret
    rw [HO.out]
    exact ⟨rfl, (by repeat' (first | exact Below.refl _ _ | assumption | refine Below.drew ?_ | refine Below.alloc ?_ (by first | omega | (simp; done) | (simp; omega)) _ | refine Below.setCell ?_ (by first | omega | (simp; done) | (simp; omega)) _))⟩
end Go.Proofs.YtkmnacchiagipaaDoor
