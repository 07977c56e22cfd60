/- The sum of bytes (plain): one changed byte changes it. -/
import Derived.ProofKit
import Derived.Test.YtajbfhdkghofbaaGreatDoorRows
namespace Go.Proofs.YtajbfhdkghofbaaGreatDoor

/-- one bit further -/
def crcBit (s : BitVec 16) : BitVec 16 := if s.getLsbD 15 = true then (s <<< 1) ^^^ 0x1021#16 else s <<< 1
def crcBits : Nat → BitVec 16 → BitVec 16
  | 0, s => s
  | k + 1, s => crcBit (crcBits k s)
/-- a byte further -/
def crcByte (s : BitVec 16) (c : Int) : BitVec 16 := crcBits 8 (s ^^^ BitVec.ofInt 16 (c * 256))
def crcOf (s : BitVec 16) (l : List Int) : BitVec 16 := l.foldl crcByte s

theorem crcBit_inj {a b : BitVec 16} (h : crcBit a = crcBit b) : a = b := by
  have h0 : ∀ s : BitVec 16, (crcBit s).getLsbD 0 = s.getLsbD 15 := fun s => by
    unfold crcBit
    split
    · rename_i e; rw [e]; simp
    · rename_i e
      have : s.getLsbD 15 = false := by simpa using e
      rw [this]; simp
  have h15 : a.getLsbD 15 = b.getLsbD 15 := by rw [← h0 a, ← h0 b, h]
  have hs : a <<< 1 = b <<< 1 := by
    unfold crcBit at h
    rw [h15] at h
    split at h
    · have := congrArg (fun z => z ^^^ 0x1021#16) h
      simpa [BitVec.xor_assoc] using this
    · exact h
  apply BitVec.eq_of_getLsbD_eq
  intro i hi
  by_cases e : i = 15
  · subst e; exact h15
  · have := congrArg (fun z => z.getLsbD (i + 1)) hs
    simp only [BitVec.getLsbD_shiftLeft] at this
    have h1 : i + 1 < 16 := by omega
    simpa [h1] using this
theorem crcBits_inj (k : Nat) {a b : BitVec 16} (h : crcBits k a = crcBits k b) : a = b := by
  induction k with
  | zero => exact h
  | succ k ih => exact ih (crcBit_inj h)
theorem crcByte_inj {a b : BitVec 16} {c : Int} (h : crcByte a c = crcByte b c) : a = b := by
  have := crcBits_inj 8 h
  have h2 := congrArg (fun z => z ^^^ BitVec.ofInt 16 (c * 256)) this
  simpa [BitVec.xor_assoc] using h2
theorem crcByte_inj2 {s : BitVec 16} {c c' : Int} (h1 : 0 ≤ c) (h2 : c < 256) (h3 : 0 ≤ c') (h4 : c' < 256) (h : crcByte s c = crcByte s c') : c = c' := by
  have := crcBits_inj 8 h
  have h5 : BitVec.ofInt 16 (c * 256) = BitVec.ofInt 16 (c' * 256) := by
    have h2 := congrArg (fun z => s ^^^ z) this
    simpa [← BitVec.xor_assoc] using h2
  have h6 := congrArg BitVec.toInt h5
  have h7 := congrArg BitVec.toNat h5
  rw [BitVec.toNat_ofInt, BitVec.toNat_ofInt] at h7
  omega
theorem crc_states {a b : BitVec 16} (hne : a ≠ b) (l : List Int) : crcOf a l ≠ crcOf b l := by
  induction l generalizing a b with
  | nil => exact hne
  | cons c l ih => exact ih (fun h => hne (crcByte_inj h))
theorem crc_one (s : BitVec 16) (l : List Int) (i : Nat) (hi : i < l.length) (c : Int) (h1 : 0 ≤ c) (h2 : c < 256) (h3 : 0 ≤ l[i]) (h4 : l[i] < 256) (hne : c ≠ l[i]) : crcOf s (l.set i c) ≠ crcOf s l := by
  induction l generalizing s i with
  | nil => simp at hi
  | cons a l ih =>
    cases i with
    | zero => exact crc_states (fun h => hne (crcByte_inj2 h1 h2 h3 h4 h)) l
    | succ i => exact ih (crcByte s a) i (by simpa using hi) h3 h4 hne
theorem crcOf_snoc (s : BitVec 16) (l : List Int) (c : Int) : crcOf s (l ++ [c]) = crcByte (crcOf s l) c := by simp [crcOf]
/-- what was summed, with the sum behind it, and one byte of it all changed -/
theorem crc_told (s : BitVec 16) (body : List Int) (hi lo : Int) (hb : ∀ c ∈ body, 0 ≤ c ∧ c < 256) (hs : ((crcOf s body).toNat : Int) = hi * 256 + lo)
    (i : Nat) (hn : i < body.length + 2) (c : Int) (c0 : 0 ≤ c) (c1 : c < 256) (hne : c ≠ (body ++ [hi, lo])[i]'(by simp; omega)) :
    ((crcOf s (((body ++ [hi, lo]).set i c).take body.length)).toNat : Int) ≠ ((body ++ [hi, lo]).set i c).getD body.length 0 * 256 + ((body ++ [hi, lo]).set i c).getD (body.length + 1) 0 := by
  by_cases hlt : i < body.length
  · have e1 : (body ++ [hi, lo]).set i c = body.set i c ++ [hi, lo] := List.set_append_left _ _ hlt
    rw [List.getElem_append_left hlt] at hne
    have hm := hb _ (List.getElem_mem hlt)
    have hc := crc_one s body i hlt c c0 c1 hm.1 hm.2 hne
    rw [e1, List.take_append_of_le_length (by simp), List.take_of_length_le (by simp)]
    have g1 : (body.set i c ++ [hi, lo]).getD body.length 0 = hi := by simp [List.getD_eq_getElem?_getD]
    have g2 : (body.set i c ++ [hi, lo]).getD (body.length + 1) 0 = lo := by simp [List.getD_eq_getElem?_getD]
    rw [g1, g2, ← hs]
    intro h
    apply hc
    apply BitVec.eq_of_toNat_eq
    omega
  · have e1 : (body ++ [hi, lo]).set i c = body ++ [hi, lo].set (i - body.length) c := List.set_append_right _ _ (by omega)
    rw [e1, List.take_append_of_le_length (by simp), List.take_of_length_le (by simp), hs]
    rw [List.getElem_append_right (by omega)] at hne
    have hc : i = body.length ∨ i = body.length + 1 := by omega
    rcases hc with rfl | rfl
    · have g1 : (body ++ [hi, lo].set (body.length - body.length) c).getD body.length 0 = c := by simp [List.getD_eq_getElem?_getD]
      have g2 : (body ++ [hi, lo].set (body.length - body.length) c).getD (body.length + 1) 0 = lo := by simp [List.getD_eq_getElem?_getD]
      rw [g1, g2]
      simp at hne
      omega
    · have g1 : (body ++ [hi, lo].set (body.length + 1 - body.length) c).getD body.length 0 = hi := by
        have : body.length + 1 - body.length = 1 := by omega
        rw [this]; simp [List.getD_eq_getElem?_getD]
      have g2 : (body ++ [hi, lo].set (body.length + 1 - body.length) c).getD (body.length + 1) 0 = c := by
        have : body.length + 1 - body.length = 1 := by omega
        rw [this]; simp [List.getD_eq_getElem?_getD]
      rw [g1, g2]
      have e2 : body.length + 1 - body.length = 1 := by omega
      simp [e2] at hne
      omega
end Go.Proofs.YtajbfhdkghofbaaGreatDoor
