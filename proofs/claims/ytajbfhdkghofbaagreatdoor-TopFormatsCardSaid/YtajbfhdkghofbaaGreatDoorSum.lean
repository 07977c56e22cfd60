/- packed.sum. -/
import Derived.Test.YtajbfhdkghofbaaGreatDoorCrcPlain
import Derived.Test.YtajbfhdkghofbaaGreatDoorMem
import Derived.LoopTactic
import Derived.IntWalk
namespace Go.Proofs.YtajbfhdkghofbaaGreatDoor
open Go.RowKit

def ucells (l : List Int) : List Value := l.map (fun n => Value.int .u8 n)
theorem ucells_get (l : List Int) (k : Nat) (h : k < l.length) : (ucells l)[k]? = some (.int .u8 l[k]) := by simp [ucells, h]

theorem wrap16 (n : Nat) (h : n < 65536) : IntKind.u16.wrap (n : Int) = n := by
  rw [IntKind.wrap_u16]; omega
theorem ofInt16 (S : BitVec 16) : BitVec.ofInt 16 (S.toNat : Int) = S := by simp
theorem xor16 (S : BitVec 16) (y : Int) : bits .xor .u16 (S.toNat : Int) y = ((S ^^^ BitVec.ofInt 16 y).toNat : Int) := by
  show IntKind.u16.wrap ((BitVec.ofInt 16 (S.toNat : Int) ^^^ BitVec.ofInt 16 y).toNat : Int) = _
  rw [ofInt16, wrap16 _ (S ^^^ BitVec.ofInt 16 y).isLt]
theorem and16 (S : BitVec 16) : bits .and .u16 (S.toNat : Int) 32768 = if S.getLsbD 15 = true then 32768 else 0 := by
  show IntKind.u16.wrap ((BitVec.ofInt 16 (S.toNat : Int) &&& BitVec.ofInt 16 32768).toNat : Int) = _
  rw [ofInt16, wrap16 _ (S &&& BitVec.ofInt 16 32768).isLt]
  have e : BitVec.ofInt 16 32768 = BitVec.twoPow 16 15 := by decide
  rw [e, BitVec.and_twoPow]
  split
  · decide
  · decide
theorem shl16 (S : BitVec 16) : IntKind.u16.wrap ((S.toNat : Int) * 2) = ((S <<< 1).toNat : Int) := by
  rw [IntKind.wrap_u16, BitVec.toNat_shiftLeft, Nat.shiftLeft_eq]
  omega

set_option maxRecDepth 100000 in
set_option maxHeartbeats 4000000 in
theorem sum_any (A : Option Addr) (c : Nat) (l : List Int) (w : World) (hb : Rd w A l.length 1 (ucells l)) (hl : l.length ≤ 8000) (hv : ∀ x ∈ l, 0 ≤ x ∧ x < 256) :
    Calls Tryz.prog 18 #[.slice A l.length c] w fun e w' => e = .returned (.int .u16 (crcOf 0xffff#16 l).toNat) ∧ w = w' := by
  have HB := Lib.hid hb; have HV := Lib.hid hv
  have rdy := hb.rdy
  clear hb hv
  go_enter Tryz.func18, Tryz.ntmps18
  go_wp2_with fail
  go_loopw [9, 3] (fun kv sv wr => ∃ k : Nat, k ≤ l.length ∧ kv = .int .i64 k ∧ sv = .int .u16 (crcOf 0xffff#16 (l.take k)).toNat ∧ wr = w) (fun kv _ _ => l.length - (intOf kv).toNat)
  case atStart => exact ⟨0, by omega, rfl, rfl, rfl⟩
  case round =>
    obtain ⟨k, hk, rfl, rfl, rfl⟩ := hrel
    have i0 : (0 : Int) ≤ ↑k := by omega
    by_cases hlt : k < l.length
    · have i1 : (↑k : Int) < ↑l.length := by omega
      have ck := HB.out.at' (ucells_get l k hlt)
      have hx := HV.out _ (List.getElem_mem hlt)
      have hsn : l.take (k + 1) = l.take k ++ [l[k]] := List.take_succ_eq_append_getElem hlt
      have HSN := Lib.hid hsn
      clear hsn
      generalize l[k] = x at *
      generalize hS : crcOf 0xffff#16 (l.take k) = S at *
      have HS := Lib.hid hS; clear hS
      obtain ⟨hx0, hx1⟩ := hx
      have hcl := World.block_lt_of_cell? _ _ ck
      have e0 := xor16 S (x * 256)
      generalize hS0 : S ^^^ BitVec.ofInt 16 (x * 256) = S0 at *
      have HS0 := Lib.hid hS0; clear hS0
      go_wp2_with fail
      clear e0
      obtain ⟨wo, rfl⟩ : ∃ wo : World, wo = wr := ⟨_, rfl⟩
      go_loopw [18, 3] (fun jv sv wx => ∃ j : Nat, j ≤ 8 ∧ jv = .int .i64 j ∧ sv = .int .u16 (crcBits j S0).toNat ∧ wx = wo) (fun jv _ _ => 8 - (intOf jv).toNat)
      case atStart => exact ⟨0, by omega, rfl, rfl, rfl⟩
      case round =>
        obtain ⟨j, hj, rfl, rfl, rfl⟩ := hrel
        have j0 : (0 : Int) ≤ ↑j := by omega
        by_cases hj8 : j < 8
        · have j1 : (↑j : Int) < 8 := by omega
          have hnx : crcBits (j + 1) S0 = crcBit (crcBits j S0) := rfl
          have HNX := Lib.hid hnx
          clear hnx
          generalize crcBits j S0 = T at *
          have e2 := shl16 T
          have e1 := and16 T
          by_cases hb : T.getLsbD 15 = true
          · rw [if_pos hb] at e1
            have e3 := xor16 (T <<< 1) 4129
            have hc : (T <<< 1 ^^^ BitVec.ofInt 16 4129) = crcBit T := by unfold crcBit; rw [if_pos hb]; rfl
            rw [hc] at e3
            clear hb hc
            generalize T <<< 1 = T1 at *
            generalize crcBit T = T2 at *
            go_wp2_with fail
            go_roundw
            case rel => exact ⟨j + 1, by omega, by go_num, by rw [HNX.out], by trivial⟩
            case measure => simp [intOf]; omega
          · rw [if_neg hb] at e1
            have hc : T <<< 1 = crcBit T := by unfold crcBit; rw [if_neg hb]
            rw [hc] at e2
            clear hb hc
            generalize crcBit T = T2 at *
            go_wp2_with fail
            go_roundw
            case rel => exact ⟨j + 1, by omega, by go_num, by rw [HNX.out], by trivial⟩
            case measure => simp [intOf]; omega
        · obtain rfl : j = 8 := by omega
          go_wp2_with fail
          go_roundw
          case rel => exact ⟨k + 1, by omega, by go_num, by rw [HSN.out, crcOf_snoc, HS.out]; unfold crcByte; rw [HS0.out], by trivial⟩
          case measure => simp [intOf]; omega
    · obtain rfl : k = l.length := by omega
      have i1 : ¬ (↑l.length : Int) < ↑l.length := by omega
      rw [List.take_of_length_le (Nat.le_refl _)]
      go_wp2_with fail
      go_ret; exact ⟨rfl, rfl⟩
end Go.Proofs.YtajbfhdkghofbaaGreatDoor
