/- Words cut in two: the slices and how they read. -/
import Derived.Test.YtikkmoleneioeaaSlices
import Derived.Deep.RegionHeld3
namespace Go.Proofs.Ytikkmoleneioeaa
open Go.RowKit

theorem rd_take {w : World} {A : Option Addr} {x : List Int} (h : Rd w A x.length 1 (icells x)) (i : Nat) (hi : i ≤ x.length) : Rd w A i 1 (icells (x.take i)) := by
  refine ⟨by simp; omega, fun h0 => h.rdy (by omega), fun j hj => ?_⟩
  simp at hj
  rw [h.cell j (by simp; omega)]
  simp
def loAddr (A : Option Addr) (c i : Nat) : Option Addr := if c = i then A else A.map (·.add (i * 1))
theorem rd_drop {w : World} {A : Option Addr} {x : List Int} (h : Rd w A x.length 1 (icells x)) (c i : Nat) (hc : x.length ≤ c) (hi : i ≤ x.length) : Rd w (loAddr A c i) (x.length - i) 1 (icells (x.drop i)) := by
  by_cases h0 : i < x.length
  · have hA := h.rdy (by omega)
    have e : loAddr A c i = some ⟨blk A, ofs A + i, none⟩ := by
      unfold loAddr
      rw [if_neg (by omega), hA]
      simp [addr_add, blk, ofs]
    rw [e]
    refine ⟨by simp, rdy_some _ _ _, fun j hj => ?_⟩
    simp at hj
    have := h.cell (i + j) (by simp; omega)
    simp only [blk_some, ofs_some, Nat.add_assoc]
    rw [this]
    simp
  · have e : x.length - i = 0 := by omega
    rw [e, List.drop_of_length_le (by omega)]
    exact Rd.nil _ _ _
set_option maxRecDepth 100000 in
theorem slice_hi (A : Option Addr) (n c i : Nat) (hi : i ≤ n) (hc : n ≤ c) (W : World) : (Instr.slice 25 (.slice A n c) none (some (.int .i64 i)) (some (.int .i64 i))).run Try.prog W = .ok (.slice A i i) W := by
  rw [run_slice_hm W _ _ _ _ Try.underlying25 _ _ _ _ (by omega) (by omega) (by omega), show Try.prog.elem 25 = 3 from by kernel_rfl, Try.sizeOf3]
  cases A with
  | none => simp [sliced]
  | some a => obtain ⟨b, o, s⟩ := a; simp [sliced, Addr.add]
set_option maxRecDepth 100000 in
theorem slice_lo (A : Option Addr) (n c i : Nat) (hi : i ≤ n) (W : World) : (Instr.slice 25 (.slice A n c) (some (.int .i64 i)) none none).run Try.prog W = .ok (.slice (loAddr A c i) (n - i) (c - i)) W := by
  rw [run_slice_l W _ _ _ _ Try.underlying25 _ _ (by omega) (by omega), show Try.prog.elem 25 = 3 from by kernel_rfl, Try.sizeOf3]
  simp [sliced, loAddr]
end Go.Proofs.Ytikkmoleneioeaa
