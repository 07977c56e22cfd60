/- names (plain): tables, words, indexes. -/
import Derived.Test.YtkmnacchiagipaaDoorMaps
import Derived.Test.YtkmnacchiagipaaDoorPick
namespace Go.Proofs.YtkmnacchiagipaaDoor
open Go.RowKit

section
variable {κ : Type} [DecidableEq κ]
/-- which place each key has, the first k looked at -/
def imapN (ks : List κ) : Nat → List (κ × Int)
  | 0 => []
  | k + 1 => match ks[k]? with
    | some x => mput (imapN ks k) x (k : Int)
    | none => imapN ks k
theorem imapN_succ (ks : List κ) (k : Nat) (h : k < ks.length) : imapN ks (k + 1) = mput (imapN ks k) ks[k] (k : Int) := by
  show (match ks[k]? with | some x => mput (imapN ks k) x (k : Int) | none => imapN ks k) = _
  rw [List.getElem?_eq_getElem h]
theorem imapN_keys (ks : List κ) : ∀ k, k ≤ ks.length → ∀ x, x ∈ (imapN ks k).map (·.1) ↔ x ∈ ks.take k
  | 0, _, x => by simp [imapN]
  | k + 1, hk, x => by
    have ih := imapN_keys ks k (by omega)
    rw [imapN_succ ks k (by omega), mput_keys, List.take_succ_eq_append_getElem (by omega)]
    split
    · rename_i h
      rw [ih x, List.mem_append]
      constructor
      · exact .inl
      · rintro (h2 | h2)
        · exact h2
        · have e : x = ks[k] := by simpa using h2
          rw [e]; exact (ih _).1 h
    · rw [List.mem_append, List.mem_append, ih x]
theorem imapN_len (ks : List κ) : ∀ k, k ≤ ks.length → (imapN ks k).length ≤ k ∧ ((imapN ks k).length = k ↔ (ks.take k).Nodup)
  | 0, _ => by simp [imapN]
  | k + 1, hk => by
    obtain ⟨h1, h2⟩ := imapN_len ks k (by omega)
    have hm := imapN_keys ks k (by omega) ks[k]
    rw [imapN_succ ks k (by omega), mput_len, List.take_succ_eq_append_getElem (by omega)]
    have hnd : (ks.take k ++ [ks[k]]).Nodup ↔ (ks.take k).Nodup ∧ ks[k] ∉ ks.take k := by
      rw [List.nodup_append]
      constructor
      · rintro ⟨a, -, b⟩; exact ⟨a, fun h => b _ h _ (by simp) rfl⟩
      · rintro ⟨a, b⟩; exact ⟨a, by simp, by intro x hx y hy; simp at hy; subst hy; intro e; subst e; exact b hx⟩
    rw [hnd]
    split
    · rename_i h
      refine ⟨by omega, ⟨fun e => by omega, fun e => absurd (hm.1 h) e.2⟩⟩
    · rename_i h
      refine ⟨by omega, ⟨fun e => ⟨h2.1 (by omega), fun hx => h (hm.2 hx)⟩, fun e => by have := h2.2 e.1; omega⟩⟩
theorem imapN_all (ks : List κ) : (imapN ks ks.length).length = ks.length ↔ ks.Nodup := by
  have := (imapN_len ks ks.length (Nat.le_refl _)).2
  rwa [List.take_length] at this
theorem imapN_none (ks : List κ) (x : κ) (h : x ∉ ks) : assoc (imapN ks ks.length) x = none := by
  rw [assoc_none_iff, imapN_keys ks _ (Nat.le_refl _), List.take_length]; exact h
theorem imapN_some (ks : List κ) (hn : ks.Nodup) : ∀ k, k ≤ ks.length → ∀ i (_ : i < k) (hi : i < ks.length), assoc (imapN ks k) ks[i] = some (i : Int)
  | 0, _, i, h, _ => by omega
  | k + 1, hk, i, _, hi => by
    rw [imapN_succ ks k (by omega), assoc_mput]
    by_cases e : i = k
    · subst e; rw [if_pos rfl]
    · rw [if_neg, imapN_some ks hn k (by omega) i (by omega) hi]
      intro e2
      exact e ((List.getElem_inj hn).1 e2)
theorem imapN_lt (ks : List κ) : ∀ k, k ≤ ks.length → ∀ x i, assoc (imapN ks k) x = some i → ∃ j : Nat, i = (j : Int) ∧ j < k
  | 0, _, x, i, h => by simp [imapN, assoc] at h
  | k + 1, hk, x, i, h => by
    rw [imapN_succ ks k (by omega), assoc_mput] at h
    split at h
    · injection h with h; exact ⟨k, h.symm, by omega⟩
    · obtain ⟨j, h1, h2⟩ := imapN_lt ks k (by omega) x i h
      exact ⟨j, h1, by omega⟩
end

abbrev Str : Type := List UInt8
structure NameL where
  text : Str
  label : Int
/-- may it be the byte of a word at a place? -/
def wordV (i n : Nat) : Bool := (97 ≤ n && n ≤ 122) || n == 95 || (48 ≤ n && n ≤ 57 && 0 < i)
def wordC (i : Nat) (c : UInt8) : Bool := wordV i c.toNat
/-- the first k bytes may be -/
def wordN (s : Str) (k : Nat) : Prop := ∀ i (h : i < s.length), i < k → wordC i s[i] = true
def WordOk (s : Str) : Prop := s ≠ [] ∧ s.length ≤ 12 ∧ ∀ i (h : i < s.length), wordC i s[i] = true
structure NamesOk (l : List NameL) : Prop where
  len : l.length ≤ 100
  lab : ∀ n ∈ l, 1 ≤ n.label ∧ n.label ≤ 1000
  word : ∀ n ∈ l, WordOk n.text
  text : (l.map (·.text)).Nodup
  labs : (l.map (·.label)).Nodup

/-! ### the table of raw numbers -/
def rowN (i : Nat) (x : Int) : NameL := ⟨[UInt8.ofNat (97 + i % 26), UInt8.ofNat (48 + i / 26), UInt8.ofNat (97 + (pick x 10).toNat)], 1 + (10 * (i : Int)) % 1000 + pick x 10⟩
def tabN (l : List Int) (k : Nat) : List NameL := (l.take k).mapIdx rowN
def tabL (l : List Int) : List NameL := tabN l 100
theorem tabN_len (l : List Int) (k : Nat) (h : k ≤ l.length) : (tabN l k).length = k := by simp [tabN]; omega
theorem tabN_succ (l : List Int) (k : Nat) (h : k < l.length) : tabN l (k + 1) = tabN l k ++ [rowN k l[k]] := by
  unfold tabN
  have e : (l.take k).length = k := by simp; omega
  rw [List.take_succ_eq_append_getElem h, List.mapIdx_append]
  simp [e]
theorem tabL_len (l : List Int) : (tabL l).length = min 100 l.length := by simp [tabL, tabN]
theorem tabL_get (l : List Int) (i : Nat) (h : i < (tabL l).length) (hi : i < l.length) : (tabL l)[i] = rowN i l[i] := by simp [tabL, tabN]
theorem u8_toNat (n : Nat) (h : n < 256) : (UInt8.ofNat n).toNat = n := by simp; omega
theorem tab_ok (l : List Int) : NamesOk (tabL l) := by
  have key : ∀ n ∈ tabL l, ∃ i x, i < 100 ∧ n = rowN i x := fun n hn => by
    obtain ⟨i, hi, rfl⟩ := List.getElem_of_mem hn
    have h1 := tabL_len l
    exact ⟨i, l[i]'(by omega), by omega, tabL_get l i hi (by omega)⟩
  have hp : ∀ x, 0 ≤ pick x 10 ∧ pick x 10 < 10 := fun x => ⟨pick_lo x 10 (by omega), pick_hi x 10 (by omega)⟩
  refine ⟨by rw [tabL_len]; omega, fun n hn => ?_, fun n hn => ?_, ?_, ?_⟩
  · obtain ⟨i, x, hi, rfl⟩ := key n hn
    have := hp x
    unfold rowN; simp only
    have : (10 * (i : Int)) % 1000 = 10 * i := by omega
    omega
  · obtain ⟨i, x, hi, rfl⟩ := key n hn
    have := hp x
    refine ⟨by simp [rowN], by simp [rowN], fun j hj => ?_⟩
    have h3 : j < 3 := by simpa [rowN] using hj
    have hc : j = 0 ∨ j = 1 ∨ j = 2 := by omega
    rcases hc with rfl | rfl | rfl
    · show wordV 0 (UInt8.ofNat (97 + i % 26)).toNat = true
      rw [u8_toNat _ (by omega)]; unfold wordV; simp; omega
    · show wordV 1 (UInt8.ofNat (48 + i / 26)).toNat = true
      rw [u8_toNat _ (by omega)]; unfold wordV; simp; omega
    · show wordV 2 (UInt8.ofNat (97 + (pick x 10).toNat)).toNat = true
      rw [u8_toNat _ (by omega)]; unfold wordV; simp; omega
  · rw [List.nodup_iff_pairwise_ne, List.pairwise_map, List.pairwise_iff_getElem]
    intro i j hi hj2 hij
    have hl := tabL_len l
    rw [tabL_get l i hi (by omega), tabL_get l j hj2 (by omega)]
    unfold rowN; simp only [ne_eq, List.cons.injEq, not_and]
    intro e1 e2
    have h1 := congrArg UInt8.toNat e1; have h2 := congrArg UInt8.toNat e2
    rw [u8_toNat _ (by omega), u8_toNat _ (by omega)] at h1 h2
    omega
  · rw [List.nodup_iff_pairwise_ne, List.pairwise_map, List.pairwise_iff_getElem]
    intro i j hi hj2 hij
    have hl := tabL_len l
    rw [tabL_get l i hi (by omega), tabL_get l j hj2 (by omega)]
    have h1 := hp (l[i]'(by omega)); have h2 := hp (l[j]'(by omega))
    unfold rowN; simp only
    have h3 : (10 * (i : Int)) % 1000 = 10 * i := by omega
    have h4 : (10 * (j : Int)) % 1000 = 10 * j := by omega
    omega
end Go.Proofs.YtkmnacchiagipaaDoor
