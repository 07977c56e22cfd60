/- slices.IsSortedFunc at arcs. -/
import Derived.Test.YtkmnacchiagipaaDoorCmp
namespace Go.Proofs.YtkmnacchiagipaaDoor
open Go.RowKit

/-- each arc is not ahead of the one before it -/
def AdjFrom (l : List ArcL) (j : Int) : Prop := ∀ (i : Nat), j ≤ i → ∀ (h : i + 1 < l.length), 0 ≤ ordA (l[i + 1]) (l[i])
noncomputable def sortedL (l : List ArcL) : Bool := @decide (AdjFrom l 0) (Classical.propDecidable _)
theorem sortedL_true {l : List ArcL} (h : AdjFrom l 0) : sortedL l = true := by unfold sortedL; exact @decide_eq_true _ (Classical.propDecidable _) h
theorem sortedL_false {l : List ArcL} (h : ¬ AdjFrom l 0) : sortedL l = false := by unfold sortedL; exact @decide_eq_false _ (Classical.propDecidable _) h
theorem sortedL_iff {l : List ArcL} : sortedL l = true ↔ AdjFrom l 0 := by
  constructor
  · intro h; exact Classical.byContradiction fun hn => by rw [sortedL_false hn] at h; cases h
  · exact sortedL_true
theorem adj_start (l : List ArcL) : AdjFrom l ((l.length : Int) - 1) := fun i h1 h2 => by omega
theorem adj_down {l : List ArcL} {n : Nat} (h : AdjFrom l ((n : Int) + 1)) (hn : n + 1 < l.length) (ho : 0 ≤ ordA l[n + 1] l[n]) : AdjFrom l (n : Int) := fun i h1 h2 => by
  by_cases e : i = n
  · subst e; exact ho
  · exact h i (by omega) h2
theorem adj_not {l : List ArcL} {n : Nat} (hn : n + 1 < l.length) (ho : ordA l[n + 1] l[n] < 0) : sortedL l = false := sortedL_false fun h => by have := h n (by omega) hn; omega
theorem adj_all {l : List ArcL} {j : Int} (h : AdjFrom l j) (hj : j ≤ 0) : sortedL l = true := sortedL_true fun i h1 h2 => h i (by omega) h2

set_option maxRecDepth 100000 in
set_option maxHeartbeats 4000000 in
theorem IsSorted_any (A : Option Addr) (c : Nat) (l : List ArcL) (w : World) (hA : ArcsAt w A l) (hl : l.length ≤ 1000000) :
    Calls Tryd.prog 60 #[.slice A l.length c, .func (.func 61) #[] #[]] w fun e w' => e = .returned (.bool (sortedL l)) ∧ Below w.heap.size w w' := by
  have HA := Lib.hid hA
  have rd := hA.rdy
  clear hA
  go_enter Tryd.func60, Tryd.ntmps60
  go_wp2_with fail
  go_loopw [5] (fun i wr => ∃ j : Int, -1 ≤ j ∧ j < l.length ∧ i = .int .i64 j ∧ Hid (AdjFrom l j) ∧ Below w.heap.size w wr) (fun i _ => (intOf i).toNat)
  case atStart => exact ⟨(l.length : Int) - 1, by omega, by omega, rfl, Lib.hid (adj_start l), Below.refl _ _⟩
  case round =>
    obtain ⟨j, hj1, hj2, rfl, HJ, bel⟩ := hrel
    by_cases hpos : 0 < j
    · obtain ⟨n, rfl⟩ : ∃ n : Nat, j = (n : Int) + 1 := ⟨(j - 1).toNat, by omega⟩
      have hn : n + 1 < l.length := by omega
      have hn0 : n < l.length := by omega
      have hr := HA.out.below bel (Nat.le_refl _)
      have d0 := hr.c0 (n + 1) hn; have d1 := hr.c1 (n + 1) hn; have d2 := hr.c2 (n + 1) hn; have d3 := hr.c3 (n + 1) hn
      have e0 := hr.c0 n hn0; have e1 := hr.c1 n hn0; have e2 := hr.c2 n hn0; have e3 := hr.c3 n hn0
      have HD := Lib.hid (fun h => adj_down HJ.out hn h)
      have HN := Lib.hid (adj_not hn)
      generalize l[n + 1] = a at *
      generalize l[n] = b at *
      have HK := Lib.hid (fun W (hw : Below wr.heap.size wr W) => (⟨cellB hw d0, cellB hw d1, cellB hw d2, cellB hw d3, cellB hw e0, cellB hw e1, cellB hw e2, cellB hw e3, hw⟩ : W.cell? ⟨blk A, ofs A + (n + 1) * 4, none⟩ = some (.int .i64 a.inn) ∧ W.cell? ⟨blk A, ofs A + (n + 1) * 4 + 1, none⟩ = some (.int .i64 a.out) ∧ W.cell? ⟨blk A, ofs A + (n + 1) * 4 + 2, none⟩ = some (.int .i64 a.wt) ∧ W.cell? ⟨blk A, ofs A + (n + 1) * 4 + 3, none⟩ = some (.int .i64 a.to) ∧ W.cell? ⟨blk A, ofs A + n * 4, none⟩ = some (.int .i64 b.inn) ∧ W.cell? ⟨blk A, ofs A + n * 4 + 1, none⟩ = some (.int .i64 b.out) ∧ W.cell? ⟨blk A, ofs A + n * 4 + 2, none⟩ = some (.int .i64 b.wt) ∧ W.cell? ⟨blk A, ofs A + n * 4 + 3, none⟩ = some (.int .i64 b.to) ∧ Below wr.heap.size wr W))
      clear hr
      have q1 : (0 : Int) ≤ ↑n + 1 := by omega
      have q2 : (↑n + 1 : Int) < ↑l.length := by omega
      have q3 : (0 : Int) ≤ ↑n := by omega
      have q4 : (↑n : Int) < ↑l.length := by omega
      have q5 : IntKind.i64.wrap (↑n : Int) = ↑n := IntWalk.i64_in _ (by omega)
      have q6 : (↑n + 1 : Int).toNat = n + 1 := by omega
      go_wp2_with fail
      go_region_held3 (fun w' => w'.cell? ⟨blk A, ofs A + (n + 1) * 4, none⟩ = some (.int .i64 a.inn) ∧ w'.cell? ⟨blk A, ofs A + (n + 1) * 4 + 1, none⟩ = some (.int .i64 a.out) ∧ w'.cell? ⟨blk A, ofs A + (n + 1) * 4 + 2, none⟩ = some (.int .i64 a.wt) ∧ w'.cell? ⟨blk A, ofs A + (n + 1) * 4 + 3, none⟩ = some (.int .i64 a.to) ∧ w'.cell? ⟨blk A, ofs A + n * 4, none⟩ = some (.int .i64 b.inn) ∧ w'.cell? ⟨blk A, ofs A + n * 4 + 1, none⟩ = some (.int .i64 b.out) ∧ w'.cell? ⟨blk A, ofs A + n * 4 + 2, none⟩ = some (.int .i64 b.wt) ∧ w'.cell? ⟨blk A, ofs A + n * 4 + 3, none⟩ = some (.int .i64 b.to) ∧ Below wr.heap.size wr w') (first | exact HK.out _ ((Below.refl _ _).drew) | (go_split_ands; exact HK.out _ (Below.step (a := wr) (by assumption) b3)))
        (first | (go_at_call 61; refine (order_any a b _).mono ?_; rintro e w' ⟨rfl, b3⟩))
      all_goals
        have BX : Below wr.heap.size wr w' := by go_split_ands; assumption
        have bz := bel.trans (BX.mono bel.size)
        clear BX HK d0 d1 d2 d3 e0 e1 e2 e3
        by_cases ho : ordA a b < 0
        · have HF := Lib.hid (HN.out ho)
          go_wp2_with fail
          go_ret
          exact ⟨congrArg (fun y => Ending.returned (.bool y)) HF.out.symm, bz⟩
        · have HF := Lib.hid (HD.out (by omega))
          go_wp2_with fail
          go_roundw
          case rel => exact ⟨n, by omega, by omega, rfl, HF, bz⟩
          case measure => simp [intOf]
    · have hz := adj_all HJ.out (by omega)
      have HZ := Lib.hid hz; clear hz
      go_wp2_with fail
      go_ret
      exact ⟨congrArg (fun y => Ending.returned (.bool y)) HZ.out.symm, bel⟩
end Go.Proofs.YtkmnacchiagipaaDoor
