/- tropicakeep.count: how often an arc stands in a row. -/
import Derived.Test.YtlfjccgbngnjhaaCmp
import Derived.Test.YtlfjccgbngnjhaaMBox
namespace Go.Proofs.Ytlfjccgbngnjhaa
open Go.RowKit

theorem count_snoc (l : List ArcL) (k : Nat) (h : k < l.length) (a : ArcL) : (l.take (k + 1)).count a = (l.take k).count a + (if l[k] = a then 1 else 0) := by
  rw [List.take_succ_eq_append_getElem h, List.count_append, List.count_singleton]
  simp

set_option maxRecDepth 100000 in
set_option maxHeartbeats 4000000 in
theorem count_any (A : Option Addr) (c : Nat) (l : List ArcL) (a : ArcL) (w : World) (hA : ArcsAt w A l) (hl : l.length ≤ 1000000) :
    Calls Try.prog 12 #[.slice A l.length c, arcVal a] w fun e w' => e = .returned (.int .i64 (l.count a : Nat)) ∧ Below w.heap.size w w' := by
  have HA := Lib.hid hA
  have rd := hA.rdy
  have HSN := Lib.hid (fun k h => count_snoc l k h a)
  have HCL : Hid (∀ k, (l.take k).count a ≤ 1000000) := Lib.hid fun k => Nat.le_trans List.count_le_length (by simp; omega)
  clear hA
  have bl : Below w.heap.size w (w.alloc (.cells #[.int .i64 a.inn, .int .i64 a.out, .int .i64 a.wt, .int .i64 a.to] 42)) := (by repeat' (first | exact Below.refl _ _ | assumption | refine Below.drew ?_ | refine Below.alloc ?_ (by first | omega | (simp; done) | (simp; omega)) _ | refine Below.setCell ?_ (by first | omega | (simp; done) | (simp; omega)) _))
  have B0 := Lib.hid (Blk.new w #[.int .i64 a.inn, .int .i64 a.out, .int .i64 a.wt, .int .i64 a.to] 42)
  go_enter Try.func12, Try.ntmps12
  go_wp2_with fail
  generalize w.alloc (.cells #[.int .i64 a.inn, .int .i64 a.out, .int .i64 a.wt, .int .i64 a.to] 42) = w1 at *
  go_loopw [5, 6] (fun n i wr => ∃ k : Nat, k ≤ l.length ∧ n = .int .i64 ((l.take k).count a : Nat) ∧ i = .int .i64 k ∧ Below w1.heap.size w1 wr) (fun _ i _ => l.length - (intOf i).toNat)
  case atStart => exact ⟨0, by omega, by simp, rfl, Below.refl _ _⟩
  case round =>
    obtain ⟨k, hk, rfl, rfl, bel⟩ := hrel
    have bw := bl.trans (bel.mono bl.size)
    by_cases hlt : k < l.length
    · have hr := HA.out.below bw (Nat.le_refl _)
      have d0 := hr.c0 k hlt; have d1 := hr.c1 k hlt; have d2 := hr.c2 k hlt; have d3 := hr.c3 k hlt
      have kb := (B0.out.step bel).cell
      have e0 := kb 0; have e1 := kb 1; have e2 := kb 2; have e3 := kb 3
      simp at e0 e1 e2 e3
      have hsn := HSN.out k hlt
      have hcl := HCL.out k
      generalize (l.take k).count a = n at *
      generalize hx : l[k] = x at *
      have HSK := Lib.hid hsn
      have HX := Lib.hid hx
      clear hr kb hsn hx
      by_cases hxa : x = a
      · subst hxa
        rw [if_pos rfl] at HSK
        go_wp2_with fail
        go_region
        go_wp2_with fail
        go_roundw
        case rel => exact ⟨k + 1, by omega, by rw [HSK.out]; push_cast; rfl, by go_num, bel.drew⟩
        case measure => simp [intOf]; omega
      · rw [if_neg hxa] at HSK
        have hd : ¬ x.inn = a.inn ∨ (x.inn = a.inn ∧ ¬ x.out = a.out) ∨ (x.inn = a.inn ∧ x.out = a.out ∧ ¬ x.wt = a.wt) ∨ (x.inn = a.inn ∧ x.out = a.out ∧ x.wt = a.wt ∧ ¬ x.to = a.to) := by
          apply Classical.byContradiction
          intro hc
          simp only [not_or, not_and, Classical.not_not] at hc
          obtain ⟨h1, h2, h3, h4⟩ := hc
          apply hxa
          cases x; cases a
          simp only at h1 h2 h3 h4
          have g2 := h2 h1; have g3 := h3 h1 g2; have g4 := h4 h1 g2 g3
          simp [h1, g2, g3, g4]
        clear hxa
        rcases hd with hd | ⟨q1, hd⟩ | ⟨q1, q2, hd⟩ | ⟨q1, q2, q3, hd⟩
        all_goals
          go_wp2_with fail
          go_region
          go_wp2_with fail
          go_roundw
          case rel => exact ⟨k + 1, by omega, by rw [HSK.out]; rfl, by go_num, bel.drew⟩
          case measure => simp [intOf]; omega
    · have e : k = l.length := by omega
      subst e
      have HE : Hid (l.take l.length = l) := Lib.hid List.take_length
      go_wp2_with fail
      go_ret
      exact ⟨by rw [HE.out]; rfl, bw⟩
end Go.Proofs.Ytlfjccgbngnjhaa
