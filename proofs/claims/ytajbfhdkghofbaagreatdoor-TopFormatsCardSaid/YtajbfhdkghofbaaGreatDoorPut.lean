/- packed.put. -/
import Derived.Test.YtajbfhdkghofbaaGreatDoorSum
import Derived.Test.YtajbfhdkghofbaaGreatDoorMBox
import Derived.LoopTactic
import Derived.IntWalk
namespace Go.Proofs.YtajbfhdkghofbaaGreatDoor
open Go.RowKit

theorem eltByte : Elt Tryz.prog 34 5 (.int .u8 0) 1 1 := ⟨Tryz.underlying34, by kernel_rfl, rfl, by omega⟩
/-- the lowest k bytes of n, the highest first -/
def putL (n : Int) : Nat → List Int
  | 0 => []
  | k + 1 => n / 256 ^ k % 256 :: putL n k
theorem putL_len (n : Int) (k : Nat) : (putL n k).length = k := by
  induction k with
  | zero => rfl
  | succ k ih => simp [putL, ih]
theorem putL_b (n : Int) (k : Nat) : ∀ x ∈ putL n k, 0 ≤ x ∧ x < 256 := by
  induction k with
  | zero => intro x hx; cases hx
  | succ k ih =>
    intro x hx
    rcases List.mem_cons.1 hx with rfl | hx
    · omega
    · exact ih x hx
/-- a row of bytes of the call's own -/
abbrev Bytes (w : World) (B : Nat) (v : Value) (l : List Int) : Prop := w.ownsRow B 5 1 v l.length (ucells l)
/-- blocks of other things are kept -/
def Others (w w' : World) : Prop := ∀ b cs t, t ≠ 5 → Blk w b cs t → Blk w' b cs t
theorem Others.refl (w : World) : Others w w := fun _ _ _ _ h => h
theorem Others.trans {a b c : World} (h : Others a b) (k : Others b c) : Others a c := fun x cs t ht hb => k x cs t ht (h x cs t ht hb)
theorem Others.grown {w w' : World} {B n : Nat} {v : Value} {xs : List Value} (ho : w.ownsRow B 5 1 v n xs) (hg : w.grownBy w' v.ownBlock) : Others w w' := fun b cs t ht hb => by
  have hne : v.ownBlock ≠ some b := by
    intro hv
    rcases ho.2 with ⟨rfl, _⟩ | ⟨g, cap, cur, rfl, _, hg, _⟩
    · simp [Value.ownBlock] at hv
    · simp [Value.ownBlock] at hv
      subst hv
      unfold Blk at hb
      rw [hb] at hg
      simp at hg
      exact ht hg.2
  unfold Blk at hb ⊢
  rw [hg.block b (Array.getElem?_eq_some_iff.1 hb).1 (fun e => hne e.symm)]
  exact hb

theorem put_step {w w' : World} {B g cap : Nat} {v : Value} {l P : List Int} {z : Int} (_ : Bytes w B v (l ++ P)) (h : w'.ownsRow B 5 1 (.slice (some ⟨g, 0, none⟩) ((l ++ P).length + 1) cap) ((l ++ P).length + 1) (ucells (l ++ P) ++ (#[.int .u8 z] : Array Value).toList)) : Bytes w' B (.slice (some ⟨g, 0, none⟩) ((l ++ P).length + 1) cap) (l ++ (P ++ [z])) := by
  have e1 : ucells (l ++ (P ++ [z])) = ucells (l ++ P) ++ [.int .u8 z] := by simp [ucells]
  have e2 : (l ++ (P ++ [z])).length = (l ++ P).length + 1 := by simp; omega
  unfold Bytes
  rw [e1, e2]
  exact h
set_option maxRecDepth 100000 in
set_option maxHeartbeats 4000000 in
theorem put_any (w0 : World) (v : Value) (l : List Int) (n : Int) (K : Nat) (w : World) (hK : K ≤ 4) (hB : Below w0.heap.size w0 w) (ho : Bytes w w0.heap.size v l) (hl : l.length ≤ 100000) (hn0 : 0 ≤ n) (hn1 : n ≤ 4294967295) :
    Calls Tryz.prog 17 #[v, .int .i64 n, .int .i64 K] w fun e w' => ∃ v', e = .returned v' ∧ Bytes w' w0.heap.size v' (l ++ putL n K) ∧ Below w0.heap.size w0 w' ∧ Others w w' := by
  have HO := Lib.hid ho; have HB := Lib.hid hB
  clear ho hB
  go_enter Tryz.func17, Tryz.ntmps17
  go_wp2_with fail
  go_loopw [7, 0] (fun kv bv wr => ∃ (j : Nat) (v' : Value) (P : List Int), j ≤ K ∧ kv = .int .i64 ((j : Int) - 1) ∧ v' = bv ∧ P ++ putL n j = putL n K ∧ P.length + j = K ∧ Bytes wr w0.heap.size v' (l ++ P) ∧ Below w0.heap.size w0 wr ∧ Others w wr) (fun kv _ _ => (intOf kv + 1).toNat)
  case atStart => exact ⟨K, v, [], by omega, rfl, rfl, rfl, by simp, by simpa using HO.out, HB.out, Others.refl _⟩
  case round =>
    obtain ⟨j, v', P, hj, rfl, rfl, hP, hPl, hO, bel, hot⟩ := hrel
    have HO := Lib.hid hO; have HP := Lib.hid hP; have HOT := Lib.hid hot
    have hsz := bel.size
    clear hO hP hot
    rcases j with _ | j
    · have hPK : P = putL n K := by rw [← HP.out]; simp [putL]
      subst hPK
      go_wp2_with fail
      go_ret; exact ⟨_, rfl, HO.out, bel, HOT.out⟩
    · have hc : j = 0 ∨ j = 1 ∨ j = 2 ∨ j = 3 := by omega
      have hlen : (l ++ P).length + 1 ≤ 1000000 := by simp; omega
      rcases hc with rfl | rfl | rfl | rfl
      · have hz : n / 256 ^ 0 % 256 = n % 256 := by simp
        have HZ := Lib.hid hz; clear hz
        go_wp2_with (at_builtin; refine wpList_app1 rfl _ _ rfl eltByte w0.heap.size v' (l ++ P).length (ucells (l ++ P)) rfl wr HO.out #[.int .u8 (n % 256)] rfl wr.heap.size rfl rfl rfl (by simp [Value.oneCell']) hlen (by omega) hsz ?_; intro g cap w5 hown hg hat hlt5)
        have HN := Lib.hid (put_step HO.out hown)
        have b5 := below_app bel HO.out hg (Nat.le_refl _) hsz
        have HT5 := Lib.hid (HOT.out.trans (Others.grown HO.out hg))
        clear hown hg hat hlt5
        go_roundw
        case rel => exact ⟨0, _, P ++ [n % 256], by omega, by go_num, rfl, by rw [List.append_assoc, ← HP.out]; show P ++ ((n % 256) :: putL n 0) = P ++ ((n / 256 ^ 0 % 256) :: putL n 0); rw [HZ.out], by simp; omega, by have h9 := HN.out; rw [List.length_append] at h9; exact h9, b5, HT5.out⟩
        case measure => simp [intOf]
      · have hz : n / 256 ^ 1 % 256 = n / 256 % 256 := by rw [show (256 : Int) ^ 1 = 256 from rfl]
        have HZ := Lib.hid hz; clear hz
        go_wp2_with (at_builtin; refine wpList_app1 rfl _ _ rfl eltByte w0.heap.size v' (l ++ P).length (ucells (l ++ P)) rfl wr HO.out #[.int .u8 (n / 256 % 256)] rfl wr.heap.size rfl rfl rfl (by simp [Value.oneCell']) hlen (by omega) hsz ?_; intro g cap w5 hown hg hat hlt5)
        have HN := Lib.hid (put_step HO.out hown)
        have b5 := below_app bel HO.out hg (Nat.le_refl _) hsz
        have HT5 := Lib.hid (HOT.out.trans (Others.grown HO.out hg))
        clear hown hg hat hlt5
        go_roundw
        case rel => exact ⟨1, _, P ++ [n / 256 % 256], by omega, by go_num, rfl, by rw [List.append_assoc, ← HP.out]; show P ++ ((n / 256 % 256) :: putL n 1) = P ++ ((n / 256 ^ 1 % 256) :: putL n 1); rw [HZ.out], by simp; omega, by have h9 := HN.out; rw [List.length_append] at h9; exact h9, b5, HT5.out⟩
        case measure => simp [intOf]
      · have hz : n / 256 ^ 2 % 256 = n / 65536 % 256 := by rw [show (256 : Int) ^ 2 = 65536 from rfl]
        have HZ := Lib.hid hz; clear hz
        go_wp2_with (at_builtin; refine wpList_app1 rfl _ _ rfl eltByte w0.heap.size v' (l ++ P).length (ucells (l ++ P)) rfl wr HO.out #[.int .u8 (n / 65536 % 256)] rfl wr.heap.size rfl rfl rfl (by simp [Value.oneCell']) hlen (by omega) hsz ?_; intro g cap w5 hown hg hat hlt5)
        have HN := Lib.hid (put_step HO.out hown)
        have b5 := below_app bel HO.out hg (Nat.le_refl _) hsz
        have HT5 := Lib.hid (HOT.out.trans (Others.grown HO.out hg))
        clear hown hg hat hlt5
        go_roundw
        case rel => exact ⟨2, _, P ++ [n / 65536 % 256], by omega, by go_num, rfl, by rw [List.append_assoc, ← HP.out]; show P ++ ((n / 65536 % 256) :: putL n 2) = P ++ ((n / 256 ^ 2 % 256) :: putL n 2); rw [HZ.out], by simp; omega, by have h9 := HN.out; rw [List.length_append] at h9; exact h9, b5, HT5.out⟩
        case measure => simp [intOf]
      · have hz : n / 256 ^ 3 % 256 = n / 16777216 := by rw [show (256 : Int) ^ 3 = 16777216 from rfl]; omega
        have HZ := Lib.hid hz; clear hz
        go_wp2_with (at_builtin; refine wpList_app1 rfl _ _ rfl eltByte w0.heap.size v' (l ++ P).length (ucells (l ++ P)) rfl wr HO.out #[.int .u8 (n / 16777216)] rfl wr.heap.size rfl rfl rfl (by simp [Value.oneCell']) hlen (by omega) hsz ?_; intro g cap w5 hown hg hat hlt5)
        have HN := Lib.hid (put_step HO.out hown)
        have b5 := below_app bel HO.out hg (Nat.le_refl _) hsz
        have HT5 := Lib.hid (HOT.out.trans (Others.grown HO.out hg))
        clear hown hg hat hlt5
        go_roundw
        case rel => exact ⟨3, _, P ++ [n / 16777216], by omega, by go_num, rfl, by rw [List.append_assoc, ← HP.out]; show P ++ ((n / 16777216) :: putL n 3) = P ++ ((n / 256 ^ 3 % 256) :: putL n 3); rw [HZ.out], by simp; omega, by have h9 := HN.out; rw [List.length_append] at h9; exact h9, b5, HT5.out⟩
        case measure => simp [intOf]
end Go.Proofs.YtajbfhdkghofbaaGreatDoor
