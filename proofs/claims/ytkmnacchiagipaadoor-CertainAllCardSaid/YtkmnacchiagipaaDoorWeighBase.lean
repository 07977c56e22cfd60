/- weigh.word, weigh.step. -/
import Derived.Test.YtkmnacchiagipaaDoorIntArg
import Derived.Deep.QuietTactic
import Derived.BigQuiet
namespace Go.Proofs.YtkmnacchiagipaaDoor
open Go.RowKit

theorem wword_ok (A : Option Addr) (n c : Nat) (xs : List Int) (w : World) (h : Rd w A n 1 (icells xs)) (hn : n ≤ 12) (hb : ∀ x ∈ xs, 1 ≤ x ∧ x ≤ 1000) :
    Calls Tryd.prog 96 #[.slice A n c] w fun e w' => e = .returned (.int .i64 0) ∧ w = w' := by
  have HC := Lib.hid (rdi_cell h)
  have HL := Lib.hid (rdi_len h)
  have HB := Lib.hid hb
  have rd := h.rdy
  have g1 : ¬ (12 : Int) < (n : Int) := by omega
  clear h hb
  go_enter Tryd.func96, Tryd.ntmps96
  go_wp2_with fail
  go_loop [10] (fun i => ∃ k : Nat, k ≤ n ∧ i = .int .i64 k) (fun i => n - (intOf i).toNat)
  case atStart => exact ⟨0, by omega, rfl⟩
  case round =>
    obtain ⟨k, hk, rfl⟩ := hrel
    by_cases hlt : k < n
    · have hkl : k < xs.length := by have := HL.out; omega
      have hcell := HC.out k hkl
      have hx := HB.out xs[k] (List.getElem_mem hkl)
      generalize xs[k] = x at *
      have e1 : ¬ x < 1 := by omega
      have e2 : ¬ 1000 < x := by omega
      go_wp2_with fail
      go_round
      case rel => exact ⟨k + 1, by omega, by go_num⟩
      case measure => simp [intOf]; omega
    · go_wp2_with fail
      go_ret
      exact ⟨rfl, rfl⟩

theorem step_empty (A : Option Addr) (n c : Nat) (at' : Int) (w : World) :
    Calls Tryd.prog 131 #[.slice A n c, .int .i64 at', .int .i64 0] w fun e w' => e = .returned (.tuple #[.int .i64 at', .bool true]) ∧ Below w.heap.size w w' := by
  go_enter Tryd.func131, Tryd.ntmps131
  go_wp2_with fail
  go_ret2
  exact ⟨rfl, Below.refl _ _⟩

/-- is the word's label there this one? -/
def hitB (xs : List Int) (p : Nat) (lab : Int) : Bool := decide (xs[p]? = some lab)

theorem step_label (A : Option Addr) (n c : Nat) (xs : List Int) (p : Nat) (lab : Int) (w : World) (h : Rd w A n 1 (icells xs)) (hn : n ≤ 1000) (hp : p ≤ n) (hl : lab ≠ 0) :
    Calls Tryd.prog 131 #[.slice A n c, .int .i64 p, .int .i64 lab] w fun e w' => e = .returned (.tuple #[.int .i64 ((p : Int) + 1), .bool (hitB xs p lab)]) ∧ Below w.heap.size w w' := by
  have HC := Lib.hid (rdi_cell h)
  have hxl := rdi_len h
  have rd := h.rdy
  have g0 : (lab == 0) = false := by simp [hl]
  clear h
  by_cases hlt : p < n
  · have hcell := HC.out p (by omega)
    have hh : hitB xs p lab = (xs[p] == lab) := by
      unfold hitB; rw [List.getElem?_eq_getElem (by omega)]
      by_cases e : xs[p] = lab <;> simp [e]
    have HH := Lib.hid hh
    have g1 : decide ((p : Int) < (n : Int)) = true := by simp; omega
    have g2 : (p : Int) < (n : Int) := by omega
    clear hh
    generalize xs[p]'(by omega) = x at *
    clear hxl
    go_enter Tryd.func131, Tryd.ntmps131
    go_wp2_with fail
    go_quiet (fail)
    go_wp2_with fail
    go_ret2
    rw [HH.out]
    exact ⟨rfl, by first | exact (Below.refl _ _).drew | exact ⟨rfl, rfl, rfl, Nat.le_refl _, fun _ _ => rfl⟩⟩
  · have hh : hitB xs p lab = false := by
      unfold hitB; rw [List.getElem?_eq_none (by omega)]; simp
    have HH := Lib.hid hh
    have g1 : decide ((p : Int) < (n : Int)) = false := by simp; omega
    clear hxl hh
    go_enter Tryd.func131, Tryd.ntmps131
    go_wp2_with fail
    go_quiet (fail)
    go_wp2_with fail
    go_ret2
    rw [HH.out]
    exact ⟨rfl, ⟨rfl, rfl, rfl, Nat.le_refl _, fun _ _ => rfl⟩⟩
end Go.Proofs.YtkmnacchiagipaaDoor
