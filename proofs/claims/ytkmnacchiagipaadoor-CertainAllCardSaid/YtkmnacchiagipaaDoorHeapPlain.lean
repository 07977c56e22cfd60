/- Heaps (plain): exchanging elements, going up, going down. -/
/- container/heap: up, down, Push, Pop, over whatever implements the interface. -/
import Derived.ProofKit
import Derived.Test.YtkmnacchiagipaaDoorRows
import Derived.Test.YtkmnacchiagipaaDoorSlices
import Derived.LoopTactic
namespace Go.Proofs.YtkmnacchiagipaaDoor

section
variable {α : Type}
def swapL (l : List α) (i j : Nat) : List α := match l[i]?, l[j]? with
  | some x, some y => (l.set i y).set j x
  | _, _ => l
theorem swapL_eq (l : List α) (i j : Nat) (hi : i < l.length) (hj : j < l.length) : swapL l i j = (l.set i l[j]).set j l[i] := by
  unfold swapL; rw [List.getElem?_eq_getElem hi, List.getElem?_eq_getElem hj]
theorem swapL_len (l : List α) (i j : Nat) : (swapL l i j).length = l.length := by unfold swapL; split <;> simp
theorem swapL_perm (l : List α) (i j : Nat) (hi : i < l.length) (hj : j < l.length) : (swapL l i j).Perm l := by
  have h := Array.swap_perm (xs := l.toArray) (i := i) (j := j) (by simpa using hi) (by simpa using hj)
  rw [Array.perm_iff_toList_perm] at h
  rw [swapL_eq _ _ _ hi hj]
  simpa [Array.swap] using h
theorem swapL_get (l : List α) (i j k : Nat) (hi : i < l.length) (hj : j < l.length) (hk : k < l.length) : (swapL l i j)[k]'(by rw [swapL_len]; exact hk) = if k = j then l[i] else if k = i then l[j] else l[k] := by
  have e := swapL_eq l i j hi hj
  simp only [e]
  by_cases h1 : k = j
  · subst h1; simp
  · rw [List.getElem_set_ne (fun e => h1 e.symm), if_neg h1]
    by_cases h2 : k = i
    · subst h2; simp
    · rw [List.getElem_set_ne (fun e => h2 e.symm), if_neg h2]
end

section
variable {α : Type} (key : α → Int)
/-- the first n elements are a heap -/
def Heap (l : List α) (n : Nat) : Prop := ∀ k (h : k < l.length), 0 < k → k < n → key (l[(k - 1) / 2]'(by omega)) ≤ key l[k]
/-- .. but for j, which may be too small -/
def HeapUp (l : List α) (j : Nat) : Prop :=
  (∀ k (h : k < l.length), 0 < k → k ≠ j → key (l[(k - 1) / 2]'(by omega)) ≤ key l[k]) ∧
  (∀ k (h : k < l.length) (_ : 0 < k) (_ : (k - 1) / 2 = j) (_ : 0 < j), key (l[(j - 1) / 2]'(by omega)) ≤ key l[k])
/-- .. but for i, which may be too great; of the first n -/
def HeapDown (l : List α) (i n : Nat) : Prop :=
  (∀ k (h : k < l.length), 0 < k → k < n → (k - 1) / 2 ≠ i → key (l[(k - 1) / 2]'(by omega)) ≤ key l[k]) ∧
  (∀ k (h : k < l.length) (_ : 0 < k) (_ : k < n) (_ : (k - 1) / 2 = i) (_ : 0 < i), key (l[(i - 1) / 2]'(by omega)) ≤ key l[k])

variable {key}
theorem Heap.push {l : List α} (h : Heap key l l.length) (x : α) : HeapUp key (l ++ [x]) l.length := by
  refine ⟨fun k hk h0 hne => ?_, fun k hk h0 he hp => ?_⟩
  · have hk' : k < l.length := by simp at hk; omega
    rw [List.getElem_append_left hk', List.getElem_append_left (show (k - 1) / 2 < l.length by omega)]
    exact h k hk' h0 hk'
  · simp at hk; omega
theorem HeapUp.done {l : List α} {j : Nat} (h : HeapUp key l j) (hj : j < l.length) (hp : j = 0 ∨ key (l[(j - 1) / 2]'(by omega)) ≤ key l[j]) : Heap key l l.length := by
  intro k hk h0 _
  by_cases e : k = j
  · subst e
    rcases hp with hp | hp
    · omega
    · exact hp
  · exact h.1 k hk h0 e
theorem HeapUp.swap {l : List α} {j : Nat} (h : HeapUp key l j) (hj : j < l.length) (h0 : 0 < j) (hlt : key l[j] < key (l[(j - 1) / 2]'(by omega))) : HeapUp key (swapL l ((j - 1) / 2) j) ((j - 1) / 2) := by
  have hi : (j - 1) / 2 < l.length := by omega
  refine ⟨fun k hk hk0 hne => ?_, fun k hk hk0 he hp => ?_⟩
  · rw [swapL_len] at hk
    rw [swapL_get l _ j ((k - 1) / 2) hi hj (by omega), swapL_get l _ j k hi hj hk]
    by_cases e1 : k = j
    · subst e1
      rw [if_pos rfl, if_neg (by omega), if_pos rfl]; omega
    · rw [if_neg e1, if_neg hne]
      by_cases e2 : (k - 1) / 2 = j
      · rw [if_pos e2]
        exact h.2 k hk hk0 e2 h0
      · rw [if_neg e2]
        have h1 := h.1 k hk hk0 e1
        by_cases e3 : (k - 1) / 2 = (j - 1) / 2
        · rw [if_pos e3]
          simp only [e3] at h1
          omega
        · rw [if_neg e3]; exact h1
  · rw [swapL_len] at hk
    rw [swapL_get l _ j (((j - 1) / 2 - 1) / 2) hi hj (by omega), swapL_get l _ j k hi hj hk]
    have h3 := h.1 ((j - 1) / 2) hi (by omega) (by omega)
    rw [if_neg (show ¬ ((j - 1) / 2 - 1) / 2 = j by omega), if_neg (show ¬ ((j - 1) / 2 - 1) / 2 = (j - 1) / 2 by omega)]
    by_cases e1 : k = j
    · rw [if_pos e1]; exact h3
    · rw [if_neg e1, if_neg (show ¬ k = (j - 1) / 2 by omega)]
      have h4 := h.1 k hk hk0 e1
      simp only [he] at h4
      omega
theorem HeapDown.done {l : List α} {i n : Nat} (h : HeapDown key l i n) (hc : ∀ k (hk : k < l.length) (_ : 0 < k) (_ : k < n) (_ : (k - 1) / 2 = i), key (l[i]'(by omega)) ≤ key l[k]) : Heap key l n := by
  intro k hk h0 hn
  by_cases e : (k - 1) / 2 = i
  · have := hc k hk h0 hn e
    simp only [e]; exact this
  · exact h.1 k hk h0 hn e
theorem HeapDown.swap {l : List α} {i j n : Nat} (h : HeapDown key l i n) (hn : n ≤ l.length) (hj : j < n) (hp : (j - 1) / 2 = i) (h0 : 0 < j) (hlt : key (l[j]'(by omega)) ≤ key (l[i]'(by omega)))
    (hmin : ∀ k (hk : k < l.length), 0 < k → k < n → (k - 1) / 2 = i → key (l[j]'(by omega)) ≤ key l[k]) : HeapDown key (swapL l i j) j n := by
  have hil : i < l.length := by omega
  have hjl : j < l.length := by omega
  refine ⟨fun k hk hk0 hkn hne => ?_, fun k hk hk0 hkn he _ => ?_⟩
  · rw [swapL_len] at hk
    rw [swapL_get l i j ((k - 1) / 2) hil hjl (by omega), swapL_get l i j k hil hjl hk]
    rw [if_neg hne]
    by_cases e1 : k = j
    · subst e1
      rw [if_pos hp, if_pos rfl]; exact hlt
    · rw [if_neg e1]
      by_cases e2 : (k - 1) / 2 = i
      · rw [if_pos e2, if_neg (by omega)]
        exact hmin k hk hk0 hkn e2
      · rw [if_neg e2]
        by_cases e3 : k = i
        · subst e3
          rw [if_pos rfl]
          have := h.2 j hjl h0 hj hp hk0
          exact this
        · rw [if_neg e3]; exact h.1 k hk hk0 hkn e2
  · rw [swapL_len] at hk
    rw [swapL_get l i j ((j - 1) / 2) hil hjl (by omega), swapL_get l i j k hil hjl hk]
    rw [if_neg (show ¬ (j - 1) / 2 = j by omega), if_pos hp, if_neg (show ¬ k = j by omega), if_neg (show ¬ k = i by omega)]
    have := h.1 k hk hk0 hkn (by omega)
    simp only [he] at this
    exact this
/-- the first element of a heap is the least -/
theorem Heap.root {l : List α} (h : Heap key l l.length) : ∀ k (hk : k < l.length), key (l[0]'(by omega)) ≤ key l[k] := by
  intro k
  induction k using Nat.strongRecOn with
  | _ k ih =>
    intro hk
    rcases Nat.eq_zero_or_pos k with h0 | h0
    · subst h0; exact Int.le_refl _
    · have h1 := h k hk h0 hk
      have h2 := ih ((k - 1) / 2) (by omega) (by omega)
      omega
/-- when the first and the last element have changed places -/
theorem Heap.take {l : List α} (h : Heap key l l.length) (h0 : 0 < l.length) : HeapDown key (swapL l 0 (l.length - 1)) 0 (l.length - 1) := by
  refine ⟨fun k hk hk0 hkn hne => ?_, fun k hk hk0 hkn he hp => by omega⟩
  rw [swapL_len] at hk
  rw [swapL_get l 0 (l.length - 1) ((k - 1) / 2) h0 (by omega) (by omega), swapL_get l 0 (l.length - 1) k h0 (by omega) hk]
  rw [if_neg (show ¬ (k - 1) / 2 = l.length - 1 by omega), if_neg hne, if_neg (show ¬ k = l.length - 1 by omega), if_neg (show ¬ k = 0 by omega)]
  exact h k hk hk0 hk
end
end Go.Proofs.YtkmnacchiagipaaDoor

namespace Go.Proofs.YtkmnacchiagipaaDoor
open Go.RowKit

section
variable {α : Type}
/-- an interface value behind which lies a heap of a list's elements -/
structure HeapI (T : TypeId) (pv : Value) (enc : α → Value) (lt : α → α → Bool) (St : World → List α → Prop) : Prop where
  len : ∃ f, (∀ x W, (callFunc f x).run Tryd.prog W = .ok (.enter f x) W) ∧ ∀ W l, St W l → ∃ v, (method 424 T pv "Len").run Tryd.prog W = .ok (f, v) W ∧ Calls Tryd.prog f #[v] W fun e w' => e = .returned (.int .i64 l.length) ∧ St w' l
  less : ∃ f, (∀ x W, (callFunc f x).run Tryd.prog W = .ok (.enter f x) W) ∧ ∀ W l, St W l → ∀ (i j : Nat) (x y : Int), x = i → y = j → ∀ (hi : i < l.length) (hj : j < l.length), ∃ v, (method 424 T pv "Less").run Tryd.prog W = .ok (f, v) W ∧ Calls Tryd.prog f #[v, .int .i64 x, .int .i64 y] W fun e w' => e = .returned (.bool (lt l[i] l[j])) ∧ St w' l
  swap : ∃ f, (∀ x W, (callFunc f x).run Tryd.prog W = .ok (.enter f x) W) ∧ ∀ W l, St W l → ∀ (i j : Nat) (x y : Int), x = i → y = j → ∀ (_ : i < l.length) (_ : j < l.length), ∃ v, (method 424 T pv "Swap").run Tryd.prog W = .ok (f, v) W ∧ Calls Tryd.prog f #[v, .int .i64 x, .int .i64 y] W fun e w' => e = .returned (.tuple #[]) ∧ St w' (swapL l i j)
  push : ∃ f, (∀ x W, (callFunc f x).run Tryd.prog W = .ok (.enter f x) W) ∧ ∀ W l, St W l → l.length + 1 ≤ 1000000 → ∀ x, ∃ v, (method 424 T pv "Push").run Tryd.prog W = .ok (f, v) W ∧ Calls Tryd.prog f #[v, enc x] W fun e w' => e = .returned (.tuple #[]) ∧ St w' (l ++ [x])
  pop : ∃ f, (∀ x W, (callFunc f x).run Tryd.prog W = .ok (.enter f x) W) ∧ ∀ W l x, St W (l ++ [x]) → l.length + 1 ≤ 1000000 → ∃ v, (method 424 T pv "Pop").run Tryd.prog W = .ok (f, v) W ∧ Calls Tryd.prog f #[v] W fun e w' => e = .returned (enc x) ∧ St w' l

theorem keep_swap {l' l : List α} {n i j : Nat} (h : ∀ k (hk : k < l.length) (_ : n ≤ k), l'[k]? = some l[k]) (hi : i < l'.length) (hj : j < l'.length) (hin : i < n) (hjn : j < n) : ∀ k (hk : k < l.length) (_ : n ≤ k), (swapL l' i j)[k]? = some l[k] := by
  intro k hk hnk
  have h1 := h k hk hnk
  have hkl : k < l'.length := (List.getElem?_eq_some_iff.1 h1).1
  rw [List.getElem?_eq_getElem (by rw [swapL_len]; exact hkl), swapL_get l' i j k hi hj hkl, if_neg (by omega), if_neg (by omega)]
  rw [List.getElem?_eq_getElem hkl] at h1
  exact h1

variable {T : TypeId} {pv : Value} {enc : α → Value} {lt : α → α → Bool} {St : World → List α → Prop} {key : α → Int}

set_option maxRecDepth 100000 in
set_option maxHeartbeats 4000000 in
theorem up_any (H : HeapI T pv enc lt St) (hlt : ∀ a b, lt a b = decide (key a < key b)) (W : World) (l : List α) (j : Nat) (hS : St W l) (hj : j < l.length) (hl : l.length ≤ 1000000) (hU : HeapUp key l j) :
    Calls Tryd.prog 132 #[.iface T pv, .int .i64 j] W fun e w' => e = .returned (.tuple #[]) ∧ ∃ l', St w' l' ∧ l'.Perm l ∧ Heap key l' l'.length := by
  obtain ⟨fLs, hC1, HLs⟩ := H.less
  obtain ⟨fSw, hC2, HSw⟩ := H.swap
  have HS := Lib.hid hS; have HU := Lib.hid hU
  clear hS hU
  go_enter Tryd.func132, Tryd.ntmps132
  go_wp2_with fail
  go_loopw [1] (fun jv wr => ∃ (k : Nat) (l' : List α), k < l'.length ∧ jv = .int .i64 k ∧ St wr l' ∧ l'.Perm l ∧ l'.length = l.length ∧ HeapUp key l' k) (fun jv _ => (intOf jv).toNat)
  case atStart => exact ⟨j, l, hj, rfl, HS.out, List.Perm.refl _, rfl, HU.out⟩
  case round =>
    obtain ⟨k, l', hk, rfl, hS, hP, hL, hU⟩ := hrel
    rcases Nat.eq_zero_or_pos k with h0 | h0
    · subst h0
      have HN := Lib.hid (hU.done hk (.inl rfl)); have HS2 := Lib.hid hS; have HP := Lib.hid hP
      clear hS hP hL hU HLs HSw
      rw [show ((0 : Nat) : Int) = 0 from rfl]
      go_wp2_with fail
      go_end0
      exact ⟨rfl, l', HS2.out, HP.out, HN.out⟩
    · have hkb : k ≤ 1000000 := by omega
      have hil : (k - 1) / 2 < l'.length := by omega
      have e0 : (((k - 1) / 2 : Nat) : Int) = ((k : Int) - 1) / 2 := by omega
      obtain ⟨v3, m3, c3⟩ := HLs wr l' hS k ((k - 1) / 2) ↑k (((k : Int) - 1) / 2) rfl (by omega) hk hil
      have hcmp : lt (l'[k]'hk) (l'[(k - 1) / 2]'hil) = decide (key (l'[k]'hk) < key (l'[(k - 1) / 2]'hil)) := hlt _ _
      have g1 : (((k : Int) - 1) / 2 == (k : Int)) = false := by simp; omega
      have k1 : (1 : Int) ≤ ↑k := by omega
      have k2 : (0 : Int) ≤ ↑k - 1 := by omega
      by_cases hb : key (l'[k]'hk) < key (l'[(k - 1) / 2]'hil)
      · rw [hcmp, decide_eq_true hb] at c3
        have HN := Lib.hid (hU.swap hk h0 hb)
        have HP2 := Lib.hid ((swapL_perm l' _ k hil hk).trans hP)
        have HL2 := Lib.hid ((swapL_len l' ((k - 1) / 2) k).trans hL)
        have HC3 := Lib.hid c3
        have HE0 := Lib.hid e0
        have HSX := Lib.hid (fun W h => HSw W l' h ((k - 1) / 2) k (((k : Int) - 1) / 2) ↑k (by omega) rfl hil hk)
        clear c3 hcmp hS hP hL hU hb HLs HSw e0
        go_wp2_with fail
        refine HC3.out.mono ?_; rintro e w4 ⟨rfl, hS4⟩
        obtain ⟨v4, m4, c4⟩ := HSX.out w4 hS4
        have HC4 := Lib.hid c4
        clear m3 c4 hS4
        go_wp2_with fail
        refine HC4.out.mono ?_; rintro e w5 ⟨rfl, hS5⟩
        have HS5 := Lib.hid hS5
        clear hS5 m4
        go_wp2_with fail
        go_roundw
        case rel => exact ⟨(k - 1) / 2, _, by rw [swapL_len]; exact hil, by rw [HE0.out], HS5.out, HP2.out, HL2.out, HN.out⟩
        case measure => simp [intOf]; omega
      · rw [hcmp, decide_eq_false hb] at c3
        have HN := Lib.hid (hU.done hk (.inr (by omega)))
        have HC3 := Lib.hid c3; have HP := Lib.hid hP
        clear c3 hcmp hS hP hL hU hb HLs HSw e0
        go_wp2_with fail
        refine HC3.out.mono ?_; rintro e w5 ⟨rfl, hS5⟩
        have HS2 := Lib.hid hS5
        clear hS5 m3
        go_wp2_with fail
        go_end0
        exact ⟨rfl, l', HS2.out, HP.out, HN.out⟩

set_option maxRecDepth 100000 in
set_option maxHeartbeats 4000000 in
theorem down_any (H : HeapI T pv enc lt St) (hlt : ∀ a b, lt a b = decide (key a < key b)) (W : World) (l : List α) (n : Nat) (hS : St W l) (hn : n ≤ l.length) (hl : l.length ≤ 1000000) (hD : HeapDown key l 0 n) :
    Calls Tryd.prog 133 #[.iface T pv, .int .i64 0, .int .i64 n] W fun e w' => (∃ b, e = .returned (.bool b)) ∧ ∃ l', St w' l' ∧ l'.Perm l ∧ l'.length = l.length ∧ Heap key l' n ∧ ∀ k (hk : k < l.length) (_ : n ≤ k), l'[k]? = some l[k] := by
  obtain ⟨fLs, hC1, HLs⟩ := H.less
  obtain ⟨fSw, hC2, HSw⟩ := H.swap
  have HS := Lib.hid hS; have HD := Lib.hid hD
  have hnb : n ≤ 1000000 := by omega
  clear hS hD
  go_enter Tryd.func133, Tryd.ntmps133
  go_wp2_with fail
  go_loopw [7] (fun iv wr => ∃ (i : Nat) (l' : List α), (i < n ∨ i = 0) ∧ iv = .int .i64 i ∧ St wr l' ∧ l'.Perm l ∧ l'.length = l.length ∧ HeapDown key l' i n ∧ ∀ k (hk : k < l.length) (_ : n ≤ k), l'[k]? = some l[k]) (fun iv _ => n - (intOf iv).toNat)
  case atStart => exact ⟨0, l, .inr rfl, rfl, HS.out, List.Perm.refl _, rfl, HD.out, fun k hk _ => List.getElem?_eq_getElem hk⟩
  case round =>
    obtain ⟨i, l', hi, rfl, hS, hP, hL, hD, hK⟩ := hrel
    have hib : i ≤ 1000000 := by omega
    have hnl : n ≤ l'.length := by omega
    by_cases h1 : 2 * i + 1 < n
    · have g1 : ¬ ((n : Int) ≤ 2 * (i : Int) + 1) := by omega
      have g2 : ¬ (2 * (i : Int) + 1 < 0) := by omega
      by_cases h2 : 2 * i + 2 < n
      · have h1l : 2 * i + 1 < l'.length := by omega
        have h2l : 2 * i + 2 < l'.length := by omega
        have g3 : decide (2 * (i : Int) + 1 + 1 < (n : Int)) = true := by simp; omega
        obtain ⟨v2, m2, c2⟩ := HLs wr l' hS (2 * i + 2) (2 * i + 1) (2 * (i : Int) + 1 + 1) (2 * (i : Int) + 1) (by omega) (by omega) h2l h1l
        have hcm2 : lt (l'[2 * i + 2]'h2l) (l'[2 * i + 1]'h1l) = decide (key (l'[2 * i + 2]'h2l) < key (l'[2 * i + 1]'h1l)) := hlt _ _
        by_cases hb2 : key (l'[2 * i + 2]'h2l) < key (l'[2 * i + 1]'h1l)
        · rw [hcm2, decide_eq_true hb2] at c2
          have HC2 := Lib.hid c2
          clear c2 hcm2
          go_wp2_with fail
          refine HC2.out.mono ?_; rintro e w4 ⟨rfl, hS4⟩
          clear m2 HC2 hS
          obtain ⟨wr, rfl⟩ : ∃ wr : World, wr = w4 := ⟨_, rfl⟩
          have hS := hS4
          clear hS4

          have hjl : (2 * i + 2) < l'.length := by omega
          have hil : i < l'.length := by omega
          obtain ⟨v3, m3, c3⟩ := HLs wr l' hS (2 * i + 2) i (2 * (i : Int) + 1 + 1) ↑i (by omega) rfl hjl hil
          have hcmp : lt (l'[(2 * i + 2)]'hjl) (l'[i]'hil) = decide (key (l'[(2 * i + 2)]'hjl) < key (l'[i]'hil)) := hlt _ _
          by_cases hb : key (l'[(2 * i + 2)]'hjl) < key (l'[i]'hil)
          · rw [hcmp, decide_eq_true hb] at c3
            have HN := Lib.hid (hD.swap (j := (2 * i + 2)) hnl (by omega) (by omega) (by omega) (by omega) (fun k hk h0 hkn he => by
              have : k = 2 * i + 1 ∨ k = 2 * i + 2 := by omega
              rcases this with h | h
              · subst h; omega
              · subst h; exact Int.le_refl _))
            have HP2 := Lib.hid ((swapL_perm l' i (2 * i + 2) hil hjl).trans hP)
            have HL2 := Lib.hid ((swapL_len l' i (2 * i + 2)).trans hL)
            have HK2 := Lib.hid (keep_swap hK hil hjl (by omega) (by omega))
            have HC3 := Lib.hid c3
            have HSX := Lib.hid (fun W h => HSw W l' h i (2 * i + 2) ↑i (2 * (i : Int) + 1 + 1) rfl (by omega) hil hjl)
            clear c3 hcmp hS hP hL hD hK
            go_wp2_with fail
            refine HC3.out.mono ?_; rintro e w5 ⟨rfl, hS5⟩
            obtain ⟨v4, m4, c4⟩ := HSX.out w5 hS5
            have HC4 := Lib.hid c4
            clear m3 c4 hS5
            go_wp2_with fail
            refine HC4.out.mono ?_; rintro e w6 ⟨rfl, hS6⟩
            have HS6 := Lib.hid hS6
            clear hS6 m4
            go_wp2_with fail
            go_roundw
            case rel => exact ⟨(2 * i + 2), _, by omega, by go_num, HS6.out, HP2.out, HL2.out, HN.out, HK2.out⟩
            case measure => simp [intOf]; omega
          · rw [hcmp, decide_eq_false hb] at c3
            have HN := Lib.hid (hD.done (fun k hk h0 hkn he => by
              have : k = 2 * i + 1 ∨ k = 2 * i + 2 := by omega
              rcases this with h | h
              · subst h; omega
              · subst h; omega))
            have HC3 := Lib.hid c3; have HP := Lib.hid hP; have HL := Lib.hid hL; have HK := Lib.hid hK
            clear c3 hcmp hS hP hL hD hK
            go_wp2_with fail
            refine HC3.out.mono ?_; rintro e w5 ⟨rfl, hS5⟩
            have HS5 := Lib.hid hS5
            clear hS5 m3
            go_wp2_with fail
            go_ret
            exact ⟨⟨_, rfl⟩, l', HS5.out, HP.out, HL.out, HN.out, HK.out⟩
        · rw [hcm2, decide_eq_false hb2] at c2
          have HC2 := Lib.hid c2
          clear c2 hcm2
          go_wp2_with fail
          refine HC2.out.mono ?_; rintro e w4 ⟨rfl, hS4⟩
          clear m2 HC2 hS
          obtain ⟨wr, rfl⟩ : ∃ wr : World, wr = w4 := ⟨_, rfl⟩
          have hS := hS4
          clear hS4

          have hjl : (2 * i + 1) < l'.length := by omega
          have hil : i < l'.length := by omega
          obtain ⟨v3, m3, c3⟩ := HLs wr l' hS (2 * i + 1) i (2 * (i : Int) + 1) ↑i (by omega) rfl hjl hil
          have hcmp : lt (l'[(2 * i + 1)]'hjl) (l'[i]'hil) = decide (key (l'[(2 * i + 1)]'hjl) < key (l'[i]'hil)) := hlt _ _
          by_cases hb : key (l'[(2 * i + 1)]'hjl) < key (l'[i]'hil)
          · rw [hcmp, decide_eq_true hb] at c3
            have HN := Lib.hid (hD.swap (j := (2 * i + 1)) hnl (by omega) (by omega) (by omega) (by omega) (fun k hk h0 hkn he => by
              have : k = 2 * i + 1 ∨ k = 2 * i + 2 := by omega
              rcases this with h | h
              · subst h; exact Int.le_refl _
              · subst h; omega))
            have HP2 := Lib.hid ((swapL_perm l' i (2 * i + 1) hil hjl).trans hP)
            have HL2 := Lib.hid ((swapL_len l' i (2 * i + 1)).trans hL)
            have HK2 := Lib.hid (keep_swap hK hil hjl (by omega) (by omega))
            have HC3 := Lib.hid c3
            have HSX := Lib.hid (fun W h => HSw W l' h i (2 * i + 1) ↑i (2 * (i : Int) + 1) rfl (by omega) hil hjl)
            clear c3 hcmp hS hP hL hD hK
            go_wp2_with fail
            refine HC3.out.mono ?_; rintro e w5 ⟨rfl, hS5⟩
            obtain ⟨v4, m4, c4⟩ := HSX.out w5 hS5
            have HC4 := Lib.hid c4
            clear m3 c4 hS5
            go_wp2_with fail
            refine HC4.out.mono ?_; rintro e w6 ⟨rfl, hS6⟩
            have HS6 := Lib.hid hS6
            clear hS6 m4
            go_wp2_with fail
            go_roundw
            case rel => exact ⟨(2 * i + 1), _, by omega, by go_num, HS6.out, HP2.out, HL2.out, HN.out, HK2.out⟩
            case measure => simp [intOf]; omega
          · rw [hcmp, decide_eq_false hb] at c3
            have HN := Lib.hid (hD.done (fun k hk h0 hkn he => by
              have : k = 2 * i + 1 ∨ k = 2 * i + 2 := by omega
              rcases this with h | h
              · subst h; omega
              · subst h; omega))
            have HC3 := Lib.hid c3; have HP := Lib.hid hP; have HL := Lib.hid hL; have HK := Lib.hid hK
            clear c3 hcmp hS hP hL hD hK
            go_wp2_with fail
            refine HC3.out.mono ?_; rintro e w5 ⟨rfl, hS5⟩
            have HS5 := Lib.hid hS5
            clear hS5 m3
            go_wp2_with fail
            go_ret
            exact ⟨⟨_, rfl⟩, l', HS5.out, HP.out, HL.out, HN.out, HK.out⟩
      · have g3 : decide (2 * (i : Int) + 1 + 1 < (n : Int)) = false := by simp; omega

        have hjl : (2 * i + 1) < l'.length := by omega
        have hil : i < l'.length := by omega
        obtain ⟨v3, m3, c3⟩ := HLs wr l' hS (2 * i + 1) i (2 * (i : Int) + 1) ↑i (by omega) rfl hjl hil
        have hcmp : lt (l'[(2 * i + 1)]'hjl) (l'[i]'hil) = decide (key (l'[(2 * i + 1)]'hjl) < key (l'[i]'hil)) := hlt _ _
        by_cases hb : key (l'[(2 * i + 1)]'hjl) < key (l'[i]'hil)
        · rw [hcmp, decide_eq_true hb] at c3
          have HN := Lib.hid (hD.swap (j := (2 * i + 1)) hnl (by omega) (by omega) (by omega) (by omega) (fun k hk h0 hkn he => by
              have : k = 2 * i + 1 := by omega
              subst this; exact Int.le_refl _))
          have HP2 := Lib.hid ((swapL_perm l' i (2 * i + 1) hil hjl).trans hP)
          have HL2 := Lib.hid ((swapL_len l' i (2 * i + 1)).trans hL)
          have HK2 := Lib.hid (keep_swap hK hil hjl (by omega) (by omega))
          have HC3 := Lib.hid c3
          have HSX := Lib.hid (fun W h => HSw W l' h i (2 * i + 1) ↑i (2 * (i : Int) + 1) rfl (by omega) hil hjl)
          clear c3 hcmp hS hP hL hD hK
          go_wp2_with fail
          refine HC3.out.mono ?_; rintro e w5 ⟨rfl, hS5⟩
          obtain ⟨v4, m4, c4⟩ := HSX.out w5 hS5
          have HC4 := Lib.hid c4
          clear m3 c4 hS5
          go_wp2_with fail
          refine HC4.out.mono ?_; rintro e w6 ⟨rfl, hS6⟩
          have HS6 := Lib.hid hS6
          clear hS6 m4
          go_wp2_with fail
          go_roundw
          case rel => exact ⟨(2 * i + 1), _, by omega, by go_num, HS6.out, HP2.out, HL2.out, HN.out, HK2.out⟩
          case measure => simp [intOf]; omega
        · rw [hcmp, decide_eq_false hb] at c3
          have HN := Lib.hid (hD.done (fun k hk h0 hkn he => by
              have : k = 2 * i + 1 := by omega
              subst this; omega))
          have HC3 := Lib.hid c3; have HP := Lib.hid hP; have HL := Lib.hid hL; have HK := Lib.hid hK
          clear c3 hcmp hS hP hL hD hK
          go_wp2_with fail
          refine HC3.out.mono ?_; rintro e w5 ⟨rfl, hS5⟩
          have HS5 := Lib.hid hS5
          clear hS5 m3
          go_wp2_with fail
          go_ret
          exact ⟨⟨_, rfl⟩, l', HS5.out, HP.out, HL.out, HN.out, HK.out⟩
    · have g1 : (n : Int) ≤ 2 * (i : Int) + 1 := by omega
      have HN := Lib.hid (hD.done (fun k hk h0 hkn he => by omega))
      have HP := Lib.hid hP; have HL := Lib.hid hL; have HK := Lib.hid hK; have HS := Lib.hid hS
      clear hS hP hL hD hK HLs HSw
      go_wp2_with fail
      go_ret
      exact ⟨⟨_, rfl⟩, l', HS.out, HP.out, HL.out, HN.out, HK.out⟩
end
end Go.Proofs.YtkmnacchiagipaaDoor
