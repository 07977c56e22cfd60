/- cmp.Compare, cmp.Or, core.order, slices.IsSortedFunc at arcs. -/
/- slices.IsSortedFunc at arcs. -/
import Derived.Test.YtkmnacchiagipaaDoorSlices
import Derived.Test.YtkmnacchiagipaaDoorBuild
import Derived.Deep.DeepCutAuto
import Derived.Deep.CutBlock
import Derived.Deep.RegionHeld3
namespace Go.Proofs.YtkmnacchiagipaaDoor
open Go.RowKit

def cmp3 (a b : Int) : Int := if a < b then -1 else if b < a then 1 else 0
theorem cmp3_b (a b : Int) : -1 ≤ cmp3 a b ∧ cmp3 a b ≤ 1 := by unfold cmp3; split <;> (try split) <;> omega

theorem isNaN_any (a : Int) (w : World) : Calls Tryd.prog 130 #[.int .i64 a] w fun e w' => e = .returned (.bool false) ∧ w = w' := by
  go_enter Tryd.func130, Tryd.ntmps130
  go_wp2
  go_ret
  exact ⟨rfl, rfl⟩

theorem Compare_any (a b : Int) (w : World) : Calls Tryd.prog 95 #[.int .i64 a, .int .i64 b] w fun e w' => e = .returned (.int .i64 (cmp3 a b)) ∧ w = w' := by
  by_cases h : a < b
  · have hp : cmp3 a b = -1 := by unfold cmp3; rw [if_pos h]
    rw [hp]; clear hp
    go_enter Tryd.func95, Tryd.ntmps95
    go_wp2_with (go_at_call 130; refine (isNaN_any _ _).mono ?_; rintro e w' ⟨rfl, rfl⟩)
    go_ret
    exact ⟨rfl, rfl⟩
  · by_cases h2 : b < a
    · have hp : cmp3 a b = 1 := by unfold cmp3; rw [if_neg h, if_pos h2]
      rw [hp]; clear hp
      go_enter Tryd.func95, Tryd.ntmps95
      go_wp2_with (go_at_call 130; refine (isNaN_any _ _).mono ?_; rintro e w' ⟨rfl, rfl⟩)
      go_ret
      exact ⟨rfl, rfl⟩
    · have hp : cmp3 a b = 0 := by unfold cmp3; rw [if_neg h, if_neg h2]
      rw [hp]; clear hp
      go_enter Tryd.func95, Tryd.ntmps95
      go_wp2_with (go_at_call 130; refine (isNaN_any _ _).mono ?_; rintro e w' ⟨rfl, rfl⟩)
      go_ret
      exact ⟨rfl, rfl⟩

/-- the first that is not 0 -/
def firstOf : List Int → Int
  | [] => 0
  | x :: l => if x = 0 then firstOf l else x

theorem firstOf_drop (l : List Int) (k : Nat) (h : k < l.length) (hz : l[k] = 0) : firstOf (l.drop k) = firstOf (l.drop (k + 1)) := by
  rw [List.drop_eq_getElem_cons h, firstOf, if_pos hz]
theorem firstOf_hit (l : List Int) (k : Nat) (h : k < l.length) (hz : l[k] ≠ 0) : firstOf (l.drop k) = l[k] := by
  rw [List.drop_eq_getElem_cons h, firstOf, if_neg hz]

theorem Or_any (A : Option Addr) (n c : Nat) (xs : List Int) (w : World) (h : Rd w A n 1 (icells xs)) (hl : n ≤ 1000000) :
    Calls Tryd.prog 58 #[.slice A n c] w fun e w' => e = .returned (.int .i64 (firstOf xs)) ∧ w = w' := by
  have HC := Lib.hid (rdi_cell h)
  have HL := Lib.hid (rdi_len h)
  have rd := h.rdy
  clear h
  go_enter Tryd.func58, Tryd.ntmps58
  go_wp2
  go_loop [8] (fun i => ∃ k : Nat, k ≤ n ∧ i = .int .i64 k ∧ Hid (firstOf (xs.drop k) = firstOf xs)) (fun i => n - (intOf i).toNat)
  case atStart => exact ⟨0, by omega, rfl, Lib.hid rfl⟩
  case round =>
    obtain ⟨k, hk, rfl, HF⟩ := hrel
    by_cases hln : k < n
    · have hlt : k < xs.length := by have := HL.out; omega
      have hcell := HC.out k hlt
      by_cases hz : xs[k] = 0
      · have HD := Lib.hid (firstOf_drop xs k hlt hz)
        have hb : (xs[k] != 0) = false := by simp [hz]
        generalize xs[k] = x at *
        clear hz
        go_wp2
        go_round
        case rel => exact ⟨k + 1, by omega, by go_num, Lib.hid (by rw [← HD.out]; exact HF.out)⟩
        case measure => simp [intOf]; omega
      · have HD := Lib.hid (firstOf_hit xs k hlt hz)
        have hb : (xs[k] != 0) = true := by simp [hz]
        generalize xs[k] = x at *
        clear hz
        go_wp2
        go_ret
        exact ⟨congrArg (fun y => Ending.returned (.int .i64 y)) (by rw [← HF.out, HD.out]), rfl⟩
    · have h0 : firstOf xs = 0 := by rw [← HF.out, List.drop_eq_nil_of_le (by have := HL.out; omega)]; rfl
      have H0 := Lib.hid h0; clear h0
      go_wp2
      go_ret
      exact ⟨congrArg (fun y => Ending.returned (.int .i64 y)) H0.out.symm, rfl⟩

/-- the order of arcs -/
def ordA (a b : ArcL) : Int := firstOf [cmp3 a.inn b.inn, cmp3 a.out b.out, cmp3 a.to b.to, cmp3 a.wt b.wt]

theorem rd_four (w : World) (G : Nat) (hG : w.heap.size = G) (x y z u : Int) (t : TypeId) : Rd (w.alloc (.cells #[.int .i64 x, .int .i64 y, .int .i64 z, .int .i64 u] t)) (some ⟨G, 0, none⟩) 4 1 (icells [x, y, z, u]) := by
  subst hG
  refine ⟨rfl, rdy_some _ _ _, fun j hj => ?_⟩
  simp only [blk_some, ofs_some, Nat.zero_add]
  match j, hj with
  | 0, _ => simp [go_sem]
  | 1, _ => simp [go_sem]
  | 2, _ => simp [go_sem]
  | 3, _ => simp [go_sem]

theorem Rd.drew' {w : World} {A : Option Addr} {n size : Nat} {xs : List Value} (h : Rd w A n size xs) : Rd w.drew A n size xs := ⟨h.len, h.rdy, h.cell⟩

abbrev arcVal (a : ArcL) : Value := .agg #[.int .i64 a.inn, .int .i64 a.out, .int .i64 a.wt, .int .i64 a.to]

set_option maxRecDepth 100000 in
set_option maxHeartbeats 4000000 in
theorem order_any (a b : ArcL) (w : World) : Calls Tryd.prog 61 #[arcVal a, arcVal b] w fun e w' => e = .returned (.int .i64 (ordA a b)) ∧ Below w.heap.size w w' := by
  have hO : ordA a b = firstOf [cmp3 a.inn b.inn, cmp3 a.out b.out, cmp3 a.to b.to, cmp3 a.wt b.wt] := rfl
  have HO := Lib.hid hO; clear hO
  go_enter Tryd.func61, Tryd.ntmps61
  go_wp2_with fail
  go_region_held3 (fun w' => w'.cell? ⟨w.heap.size, 0, none⟩ = some (.int .i64 a.inn) ∧ w'.cell? ⟨w.heap.size, 1, none⟩ = some (.int .i64 a.out) ∧ w'.cell? ⟨w.heap.size, 2, none⟩ = some (.int .i64 a.wt) ∧ w'.cell? ⟨w.heap.size, 3, none⟩ = some (.int .i64 a.to) ∧ w'.cell? ⟨w.heap.size + 1, 0, none⟩ = some (.int .i64 b.inn) ∧ w'.cell? ⟨w.heap.size + 1, 1, none⟩ = some (.int .i64 b.out) ∧ w'.cell? ⟨w.heap.size + 1, 2, none⟩ = some (.int .i64 b.wt) ∧ w'.cell? ⟨w.heap.size + 1, 3, none⟩ = some (.int .i64 b.to)) (go_keep)
    (first | (go_at_call 95; refine (Compare_any _ _ _).mono ?_; rintro e w' ⟨rfl, rfl⟩) | (go_at_call 58; refine (Or_any _ 4 4 [cmp3 a.inn b.inn, cmp3 a.out b.out, cmp3 a.to b.to, cmp3 a.wt b.wt] _ (by first | exact rd_four _ _ (by simp) _ _ _ _ _ | exact (rd_four _ _ (by simp) _ _ _ _ _).drew') (by omega)).mono ?_; rintro e w' ⟨rfl, rfl⟩))
  all_goals
    go_wp2_with fail
    go_ret
    rw [HO.out]
    exact ⟨rfl, (by repeat' (first | exact Below.refl _ _ | assumption | refine Below.drew ?_ | refine Below.alloc ?_ (by first | omega | (simp; done) | (simp; omega)) _ | refine Below.setCell ?_ (by first | omega | (simp; done) | (simp; omega)) _))⟩
end Go.Proofs.YtkmnacchiagipaaDoor

namespace Go.Proofs.YtkmnacchiagipaaDoor
open Go.RowKit

/-- each arc is not ahead of the one before it -/
def AdjFrom (l : List ArcL) (j : Int) : Prop := ∀ (i : Nat), j ≤ i → ∀ (h : i + 1 < l.length), 0 ≤ ordA (l[i + 1]) (l[i])
noncomputable def sortedL (l : List ArcL) : Bool := @decide (AdjFrom l 0) (Classical.propDecidable _)
theorem sortedL_true {l : List ArcL} (h : AdjFrom l 0) : sortedL l = true := by unfold sortedL; exact @decide_eq_true _ (Classical.propDecidable _) h
theorem sortedL_false {l : List ArcL} (h : ¬ AdjFrom l 0) : sortedL l = false := by unfold sortedL; exact @decide_eq_false _ (Classical.propDecidable _) h
theorem sortedL_iff {l : List ArcL} : sortedL l = true ↔ AdjFrom l 0 := by
  constructor
  · intro h; exact Classical.byContradiction fun hn => by rw [sortedL_false hn] at h; cases h
  · exact sortedL_true
theorem adj_start (l : List ArcL) : AdjFrom l ((l.length : Int) - 1) := fun i h1 h2 => by omega
theorem adj_down {l : List ArcL} {n : Nat} (h : AdjFrom l ((n : Int) + 1)) (hn : n + 1 < l.length) (ho : 0 ≤ ordA l[n + 1] l[n]) : AdjFrom l (n : Int) := fun i h1 h2 => by
  by_cases e : i = n
  · subst e; exact ho
  · exact h i (by omega) h2
theorem adj_not {l : List ArcL} {n : Nat} (hn : n + 1 < l.length) (ho : ordA l[n + 1] l[n] < 0) : sortedL l = false := sortedL_false fun h => by have := h n (by omega) hn; omega
theorem adj_all {l : List ArcL} {j : Int} (h : AdjFrom l j) (hj : j ≤ 0) : sortedL l = true := sortedL_true fun i h1 h2 => h i (by omega) h2

set_option maxRecDepth 100000 in
set_option maxHeartbeats 4000000 in
theorem IsSorted_any (A : Option Addr) (c : Nat) (l : List ArcL) (w : World) (hA : ArcsAt w A l) (hl : l.length ≤ 1000000) :
    Calls Tryd.prog 60 #[.slice A l.length c, .func (.func 61) #[] #[]] w fun e w' => e = .returned (.bool (sortedL l)) ∧ Below w.heap.size w w' := by
  have HA := Lib.hid hA
  have rd := hA.rdy
  clear hA
  go_enter Tryd.func60, Tryd.ntmps60
  go_wp2_with fail
  go_loopw [5] (fun i wr => ∃ j : Int, -1 ≤ j ∧ j < l.length ∧ i = .int .i64 j ∧ Hid (AdjFrom l j) ∧ Below w.heap.size w wr) (fun i _ => (intOf i).toNat)
  case atStart => exact ⟨(l.length : Int) - 1, by omega, by omega, rfl, Lib.hid (adj_start l), Below.refl _ _⟩
  case round =>
    obtain ⟨j, hj1, hj2, rfl, HJ, bel⟩ := hrel
    by_cases hpos : 0 < j
    · obtain ⟨n, rfl⟩ : ∃ n : Nat, j = (n : Int) + 1 := ⟨(j - 1).toNat, by omega⟩
      have hn : n + 1 < l.length := by omega
      have hn0 : n < l.length := by omega
      have hr := HA.out.below bel (Nat.le_refl _)
      have d0 := hr.c0 (n + 1) hn; have d1 := hr.c1 (n + 1) hn; have d2 := hr.c2 (n + 1) hn; have d3 := hr.c3 (n + 1) hn
      have e0 := hr.c0 n hn0; have e1 := hr.c1 n hn0; have e2 := hr.c2 n hn0; have e3 := hr.c3 n hn0
      have HD := Lib.hid (fun h => adj_down HJ.out hn h)
      have HN := Lib.hid (adj_not hn)
      generalize l[n + 1] = a at *
      generalize l[n] = b at *
      have HK := Lib.hid (fun W (hw : Below wr.heap.size wr W) => (⟨cellB hw d0, cellB hw d1, cellB hw d2, cellB hw d3, cellB hw e0, cellB hw e1, cellB hw e2, cellB hw e3, hw⟩ : W.cell? ⟨blk A, ofs A + (n + 1) * 4, none⟩ = some (.int .i64 a.inn) ∧ W.cell? ⟨blk A, ofs A + (n + 1) * 4 + 1, none⟩ = some (.int .i64 a.out) ∧ W.cell? ⟨blk A, ofs A + (n + 1) * 4 + 2, none⟩ = some (.int .i64 a.wt) ∧ W.cell? ⟨blk A, ofs A + (n + 1) * 4 + 3, none⟩ = some (.int .i64 a.to) ∧ W.cell? ⟨blk A, ofs A + n * 4, none⟩ = some (.int .i64 b.inn) ∧ W.cell? ⟨blk A, ofs A + n * 4 + 1, none⟩ = some (.int .i64 b.out) ∧ W.cell? ⟨blk A, ofs A + n * 4 + 2, none⟩ = some (.int .i64 b.wt) ∧ W.cell? ⟨blk A, ofs A + n * 4 + 3, none⟩ = some (.int .i64 b.to) ∧ Below wr.heap.size wr W))
      clear hr
      have q1 : (0 : Int) ≤ ↑n + 1 := by omega
      have q2 : (↑n + 1 : Int) < ↑l.length := by omega
      have q3 : (0 : Int) ≤ ↑n := by omega
      have q4 : (↑n : Int) < ↑l.length := by omega
      have q5 : IntKind.i64.wrap (↑n : Int) = ↑n := IntWalk.i64_in _ (by omega)
      have q6 : (↑n + 1 : Int).toNat = n + 1 := by omega
      go_wp2_with fail
      go_region_held3 (fun w' => w'.cell? ⟨blk A, ofs A + (n + 1) * 4, none⟩ = some (.int .i64 a.inn) ∧ w'.cell? ⟨blk A, ofs A + (n + 1) * 4 + 1, none⟩ = some (.int .i64 a.out) ∧ w'.cell? ⟨blk A, ofs A + (n + 1) * 4 + 2, none⟩ = some (.int .i64 a.wt) ∧ w'.cell? ⟨blk A, ofs A + (n + 1) * 4 + 3, none⟩ = some (.int .i64 a.to) ∧ w'.cell? ⟨blk A, ofs A + n * 4, none⟩ = some (.int .i64 b.inn) ∧ w'.cell? ⟨blk A, ofs A + n * 4 + 1, none⟩ = some (.int .i64 b.out) ∧ w'.cell? ⟨blk A, ofs A + n * 4 + 2, none⟩ = some (.int .i64 b.wt) ∧ w'.cell? ⟨blk A, ofs A + n * 4 + 3, none⟩ = some (.int .i64 b.to) ∧ Below wr.heap.size wr w') (first | exact HK.out _ ((Below.refl _ _).drew) | (go_split_ands; exact HK.out _ (Below.step (a := wr) (by assumption) b3)))
        (first | (go_at_call 61; refine (order_any a b _).mono ?_; rintro e w' ⟨rfl, b3⟩))
      all_goals
        have BX : Below wr.heap.size wr w' := by go_split_ands; assumption
        have bz := bel.trans (BX.mono bel.size)
        clear BX HK d0 d1 d2 d3 e0 e1 e2 e3
        by_cases ho : ordA a b < 0
        · have HF := Lib.hid (HN.out ho)
          go_wp2_with fail
          go_ret
          exact ⟨congrArg (fun y => Ending.returned (.bool y)) HF.out.symm, bz⟩
        · have HF := Lib.hid (HD.out (by omega))
          go_wp2_with fail
          go_roundw
          case rel => exact ⟨n, by omega, by omega, rfl, HF, bz⟩
          case measure => simp [intOf]
    · have hz := adj_all HJ.out (by omega)
      have HZ := Lib.hid hz; clear hz
      go_wp2_with fail
      go_ret
      exact ⟨congrArg (fun y => Ending.returned (.bool y)) HZ.out.symm, bel⟩
end Go.Proofs.YtkmnacchiagipaaDoor
