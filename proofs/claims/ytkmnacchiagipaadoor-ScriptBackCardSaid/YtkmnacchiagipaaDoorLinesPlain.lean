/- Lines of a text (plain). -/
import Derived.Lib.Bytealg
namespace Go.Proofs.YtkmnacchiagipaaDoor

def lineOf (s : List UInt8) : List UInt8 := if 0 ≤ Lib.indexByte s 10 then s.take ((Lib.indexByte s 10).toNat + 1) else s
def restOf (s : List UInt8) : List UInt8 := if 0 ≤ Lib.indexByte s 10 then s.drop ((Lib.indexByte s 10).toNat + 1) else []
def linesN : Nat → List UInt8 → List (List UInt8)
  | 0, _ => []
  | n + 1, s => if s = [] then [] else lineOf s :: linesN n (restOf s)
def linesL (s : List UInt8) : List (List UInt8) := linesN s.length s

theorem restOf_le (s : List UInt8) (h : s ≠ []) : (restOf s).length + 1 ≤ s.length := by
  have h0 : 0 < s.length := List.length_pos_iff.2 h
  unfold restOf
  split
  · rw [List.length_drop]; omega
  · simp; omega
theorem lineOf_rest (s : List UInt8) : lineOf s ++ restOf s = s := by
  unfold lineOf restOf
  split
  · exact List.take_append_drop _ _
  · simp
theorem lineOf_le (s : List UInt8) : (lineOf s).length ≤ s.length := by
  have := congrArg List.length (lineOf_rest s); rw [List.length_append] at this; omega
theorem linesN_more : ∀ (n : Nat) (s : List UInt8), s.length ≤ n → linesN n s = linesL s := by
  intro n
  induction n using Nat.strongRecOn with
  | ind n ih =>
    intro s hs
    match n, ih, hs with
    | 0, _, hs => obtain rfl : s = [] := List.length_eq_zero_iff.1 (by omega); rfl
    | n + 1, ih, hs =>
      by_cases h : s = []
      · subst h; rfl
      · have h1 := restOf_le s h
        obtain ⟨k, hk⟩ : ∃ k, s.length = k + 1 := ⟨s.length - 1, by have := List.length_pos_iff.2 h; omega⟩
        unfold linesL
        rw [hk]
        unfold linesN
        rw [if_neg h, if_neg h, ih n (by omega) _ (by omega)]
        by_cases hkn : k = n
        · subst hkn; rw [ih k (by omega) _ (by omega)]
        · rw [ih k (by omega) _ (by omega)]
theorem linesL_nil : linesL [] = [] := rfl
theorem linesL_cons (s : List UInt8) (h : s ≠ []) : linesL s = lineOf s :: linesL (restOf s) := by
  have h1 := restOf_le s h
  obtain ⟨k, hk⟩ : ∃ k, s.length = k + 1 := ⟨s.length - 1, by have := List.length_pos_iff.2 h; omega⟩
  rw [linesL, hk]
  unfold linesN
  rw [if_neg h, linesN_more k _ (by omega)]
theorem index_at (l r : List UInt8) (h : (10 : UInt8) ∉ l) : Lib.indexByte (l ++ 10 :: r) 10 = l.length := by
  induction l with
  | nil => simp [Lib.indexByte]
  | cons c l ih =>
    have hc : c ≠ 10 := fun e => h (by simp [e])
    have := ih (fun hm => h (by simp [hm]))
    simp only [List.cons_append, Lib.indexByte, this]
    rw [if_neg (by simpa using hc), if_neg (by simp <;> omega)]
    simp
theorem indexByte_in (c : UInt8) : ∀ l : List UInt8, Lib.indexByte l c < l.length
  | [] => by simp [Lib.indexByte]
  | b :: l => by
    have := indexByte_in c l
    unfold Lib.indexByte
    simp only [List.length_cons]
    split
    · omega
    · split <;> omega
theorem linesL_line (l r : List UInt8) (h : (10 : UInt8) ∉ l) : linesL (l ++ [10] ++ r) = (l ++ [10]) :: linesL r := by
  have e : l ++ [10] ++ r = l ++ 10 :: r := by simp
  have hi := index_at l r h
  rw [e, linesL_cons _ (by simp)]
  unfold lineOf restOf
  rw [hi, if_pos (by omega), if_pos (by omega), show ((l.length : Int).toNat + 1) = l.length + 1 by omega]
  rw [show l.length + 1 = (l ++ [10]).length by simp, ← e, List.take_left, List.drop_left]
theorem linesN_count : ∀ (n : Nat) (s : List UInt8), (linesN n s).length ≤ n
  | 0, s => by simp [linesN]
  | n + 1, s => by unfold linesN; split <;> simp [linesN_count n]
theorem linesL_count (s : List UInt8) : (linesL s).length ≤ s.length := linesN_count _ _
theorem linesN_join : ∀ (n : Nat) (s : List UInt8), s.length ≤ n → (linesN n s).flatten = s
  | 0, s, h => by obtain rfl : s = [] := List.length_eq_zero_iff.1 (by omega); rfl
  | n + 1, s, h => by
    unfold linesN
    split
    · rename_i h0; subst h0; rfl
    · rename_i h0
      have := restOf_le s h0
      rw [List.flatten_cons, linesN_join n _ (by omega), lineOf_rest]
theorem linesL_join (s : List UInt8) : (linesL s).flatten = s := linesN_join _ _ (Nat.le_refl _)
theorem le_sum_mem : ∀ (l : List Nat) (n : Nat), n ∈ l → n ≤ l.sum
  | a :: l, n, h => by
    rw [List.sum_cons]
    rcases List.mem_cons.1 h with rfl | h
    · omega
    · have := le_sum_mem l n h; omega
theorem linesL_mem {s x : List UInt8} (h : x ∈ linesL s) : x.length ≤ s.length := by
  have e := congrArg List.length (linesL_join s)
  rw [List.length_flatten] at e
  have := le_sum_mem _ x.length (List.mem_map.2 ⟨x, h, rfl⟩)
  omega
theorem linesN_ne : ∀ (n : Nat) (s x : List UInt8), x ∈ linesN n s → x ≠ []
  | 0, s, x, h => by simp [linesN] at h
  | n + 1, s, x, h => by
    unfold linesN at h
    split at h
    · simp at h
    · rename_i h0
      rcases List.mem_cons.1 h with rfl | h
      · unfold lineOf
        split
        · intro e
          cases s with
          | nil => exact h0 rfl
          | cons c s => simp at e
        · exact h0
      · exact linesN_ne n _ x h
end Go.Proofs.YtkmnacchiagipaaDoor
