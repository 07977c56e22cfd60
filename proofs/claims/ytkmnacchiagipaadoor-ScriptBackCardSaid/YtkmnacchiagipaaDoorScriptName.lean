/- script.field and script.name. -/
import Derived.Test.YtkmnacchiagipaaDoorScriptPlain
import Derived.Test.YtkmnacchiagipaaDoorTextUse
namespace Go.Proofs.YtkmnacchiagipaaDoor
open Go.RowKit

set_option maxRecDepth 100000 in
set_option maxHeartbeats 1000000 in
theorem field_any (b : Nat) (c : Int) (w : World) : Calls Tryd.prog 90 #[.pointer (some ⟨b, 0, none⟩), .int .i32 c] w fun e w' => e = .returned (.pointer (some ⟨b, offF c, none⟩)) ∧ w = w' := by
  by_cases h1 : c = 116
  · subst h1
    have e : offF 116 = 1 := rfl
    rw [e]
    go_enter Tryd.func90, Tryd.ntmps90
    go_wp2
    go_ret
    exact ⟨rfl, rfl⟩
  · have e1 : (c == 116) = false := by simpa using h1
    by_cases h2 : c = 97
    · subst h2
      have e : offF 97 = 2 := rfl
      rw [e]
      go_enter Tryd.func90, Tryd.ntmps90
      go_wp2
      go_ret
      exact ⟨rfl, rfl⟩
    · have e2 : (c == 97) = false := by simpa using h2
      have e : offF c = 3 := by unfold offF; rw [if_neg h1, if_neg h2]
      rw [e]
      clear h1 h2 e
      go_enter Tryd.func90, Tryd.ntmps90
      go_wp2
      go_ret
      exact ⟨rfl, rfl⟩
theorem trimN_any (s : ByteArray) (hs : s.size ≤ 1000000) (w : World) : Calls Tryd.prog 34 #[.string s, .string ⟨nameCut.toArray⟩] w fun e w' => e = .returned (.string ⟨(Lib.trimS s.data.toList nameCut).toArray⟩) ∧ Below w.heap.size w w' :=
  Any.strings_Trim_laid Tryd.lays160 (by kernel_rfl) s ⟨nameCut.toArray⟩ w (by omega) (by decide) (ascii_of_all (by decide))
set_option maxRecDepth 100000 in
set_option maxHeartbeats 2000000 in
theorem name_any (s : List UInt8) (hs : s.length ≤ 100000) (w : World) : Calls Tryd.prog 89 #[.string ⟨s.toArray⟩] w fun e w' => e = .returned (.bool (nameB s)) ∧ Below w.heap.size w w' := by
  have TN := Lib.hid (fun W => trimN_any ⟨s.toArray⟩ (by show s.length ≤ _; omega) W)
  have etl : (⟨s.toArray⟩ : ByteArray).data.toList = s := rfl
  rw [etl] at TN
  have hsz : (⟨s.toArray⟩ : ByteArray).size = s.length := rfl
  cases s with
  | nil =>
    have e : nameB [] = false := rfl
    rw [e]
    clear hsz etl
    go_enter Tryd.func89, Tryd.ntmps89
    go_wp2_with fail
    go_ret
    exact ⟨rfl, Below.refl _ _⟩
  | cons c r =>
    by_cases h12 : 12 < (c :: r).length
    · have e : nameB (c :: r) = false := by
        unfold nameB
        have : ¬ (1 ≤ (c :: r).length ∧ (c :: r).length ≤ 12) := by omega
        simp only [this, decide_false, Bool.false_and]
      rw [e]
      obtain ⟨sb, hsb⟩ : ∃ sb : ByteArray, (⟨(c :: r).toArray⟩ : ByteArray) = sb := ⟨_, rfl⟩
      rw [hsb] at hsz TN ⊢
      have i1 : (1 : Int) ≤ (sb.size : Int) := by rw [hsz]; simp; omega
      have i2 : ¬ (sb.size : Int) ≤ 12 := by rw [hsz]; omega
      clear hsz etl hsb h12 hs
      go_enter Tryd.func89, Tryd.ntmps89
      go_wp2_with fail
      go_ret
      exact ⟨rfl, Below.refl _ _⟩
    · have hN : nameB (c :: r) = ((decide (c.toNat < 48) || decide (57 < c.toNat)) && (Lib.trimS (c :: r) nameCut == [])) := by
        unfold nameB
        have : 1 ≤ (c :: r).length ∧ (c :: r).length ≤ 12 := ⟨by simp, by omega⟩
        simp only [this, decide_true, Bool.true_and, and_self]
      rw [hN]
      obtain ⟨sb, hsb⟩ : ∃ sb : ByteArray, (⟨(c :: r).toArray⟩ : ByteArray) = sb := ⟨_, rfl⟩
      have hg0 : ∀ h : 0 < sb.size, sb[0]'h = c := by subst hsb; intro h; rfl
      rw [hsb] at hsz TN ⊢
      have hl : 0 < sb.size := by rw [hsz]; simp
      have i1 : (1 : Int) ≤ (sb.size : Int) := by omega
      have i2 : (sb.size : Int) ≤ 12 := by rw [hsz]; omega
      have hg := hg0 hl
      generalize Lib.trimS (c :: r) nameCut = t at *
      have htt : (⟨t.toArray⟩ : ByteArray).toList = t := Lib.toList_data _
      have HNC : Hid (nameCut = nameCut) := Lib.hid rfl
      clear hsz etl hsb h12 hs hN hg0
      generalize hc : c.toNat = k at *
      unfold nameCut at TN
      have hgk : (sb[0]'hl).toNat = k := by rw [hg]; exact hc
      have e0 : (t == []) = t.isEmpty := by cases t <;> rfl
      by_cases k1 : k < 48
      · have j1 : (k : Int) < 48 := by omega
        have ev : ((decide (k < 48) || decide (57 < k)) && (t == [])) = (t == []) := by simp [k1]
        rw [ev]
        clear ev hc k1 hg
        generalize hb : (t == []) = tb at *
        go_enter Tryd.func89, Tryd.ntmps89
        go_wp2_with fail
        refine (TN.out _).mono ?_; rintro e w1 ⟨rfl, b1⟩
        go_wp2_with fail
        go_ret
        exact ⟨by simp [e0], b1⟩
      · by_cases k2 : 57 < k
        · have j1 : ¬ (k : Int) < 48 := by omega
          have j2 : (57 : Int) < (k : Int) := by omega
          have ev : ((decide (k < 48) || decide (57 < k)) && (t == [])) = (t == []) := by simp [k2]
          rw [ev]
          clear ev hc k1 k2 hg
          generalize hb : (t == []) = tb at *
          go_enter Tryd.func89, Tryd.ntmps89
          go_wp2_with fail
          refine (TN.out _).mono ?_; rintro e w1 ⟨rfl, b1⟩
          go_wp2_with fail
          go_ret
          exact ⟨by simp [e0], b1⟩
        · have j1 : ¬ (k : Int) < 48 := by omega
          have j2 : ¬ (57 : Int) < (k : Int) := by omega
          have ev : ((decide (k < 48) || decide (57 < k)) && (t == [])) = false := by simp [k1, k2]
          rw [ev]
          clear ev hc k1 k2 hg
          go_enter Tryd.func89, Tryd.ntmps89
          go_wp2_with fail
          go_ret
          exact ⟨rfl, Below.refl _ _⟩
end Go.Proofs.YtkmnacchiagipaaDoor
