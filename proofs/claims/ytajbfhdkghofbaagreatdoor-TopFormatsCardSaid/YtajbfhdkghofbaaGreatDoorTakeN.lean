/- take: so many bytes as a number; or there are too few. -/
import Derived.Test.YtajbfhdkghofbaaGreatDoorTake
import Derived.Test.YtajbfhdkghofbaaGreatDoorPackPlain
namespace Go.Proofs.YtajbfhdkghofbaaGreatDoor
open Go.RowKit

theorem valB_snoc (l : List Int) (c : Int) : valB (l ++ [c]) = valB l * 256 + c := by unfold valB; rw [List.foldl_append]; rfl
theorem or_bytesN (x y : Int) (hx0 : 0 ≤ x) (hx1 : x < 16777216) (hy0 : 0 ≤ y) (hy1 : y < 256) : bits .or .i64 (x * 256) y = x * 256 + y := by
  obtain ⟨a, rfl⟩ : ∃ a : Nat, x = a := ⟨x.toNat, by omega⟩
  obtain ⟨b, rfl⟩ : ∃ b : Nat, y = b := ⟨y.toNat, by omega⟩
  have h := (bits_nat .i64 32 (by decide) (fun n h0 h1 => IntWalk.i64_in _ (by omega)) (a * 256) b (by omega) (by omega)).2
  have e : ((a : Int) * 256) = ((a * 256 : Nat) : Int) := by simp
  rw [e, h]
  have h2 : a * 256 ||| b = a * 256 + b := by
    have := Nat.two_pow_add_eq_or_of_lt (i := 8) (b := b) (by omega) a
    rw [show 2 ^ 8 = 256 from rfl, Nat.mul_comm 256 a] at this
    exact this.symm
  rw [h2]; simp

/-- a taker at tb that has the bytes l left -/
structure TK (w : World) (tb g o c : Nat) (l : List Int) : Prop where
  blk : Blk w tb #[.slice (some ⟨g, o, none⟩) l.length c] 62
  cap : l.length < c
  ce : ∀ i (h : i < l.length), w.cell? ⟨g, o + i, none⟩ = some (.int .u8 l[i])
  ok : BOk l
  ne : g ≠ tb
theorem TK.keep {w w' : World} {tb g o c : Nat} {l : List Int} (h : TK w tb g o c l) (hb : Below w.heap.size w w') : TK w' tb g o c l :=
  ⟨h.blk.step hb, h.cap, fun i hi => cell_keep hb (Nat.le_refl _) (h.ce i hi), h.ok, h.ne⟩
/-- the world when k bytes have been taken -/
def tookW (w : World) (tb g o c : Nat) (l : List Int) (k : Nat) : World := w.setCell ⟨tb, 0, none⟩ (.slice (some ⟨g, o + k, none⟩) (l.length - k) (c - k))
theorem TK.took {w : World} {tb g o c : Nat} {l : List Int} (h : TK w tb g o c l) (k : Nat) (hk : k ≤ l.length) : TK (tookW w tb g o c l k) tb g (o + k) (c - k) (l.drop k) := by
  have hc := h.cap; have hne := h.ne
  refine ⟨(h.blk.put 0 _).eq (by simp), by simp; omega, fun i hi => ?_, fun x hx => h.ok x (List.mem_of_mem_drop hx), hne⟩
  have hi2 : k + i < l.length := by simp at hi; omega
  unfold tookW
  rw [World.cell?_setCell_other _ _ _ _ (by intro e; injection e with e1; exact hne e1.symm)]
  have := h.ce (k + i) hi2
  rw [← Nat.add_assoc] at this
  rw [this]; simp
theorem TK.grown {w : World} {tb g o c : Nat} {l : List Int} (k : Nat) : w.grownBy (tookW w tb g o c l k) (some tb) := grown_set w tb 0 _

set_option maxRecDepth 100000 in
set_option maxHeartbeats 4000000 in
theorem take_ok (tb g o c k : Nat) (l : List Int) (w : World) (h : TK w tb g o c l) (hk0 : 1 ≤ k) (hk4 : k ≤ 4) (hk : k ≤ l.length) (hl : l.length ≤ 100000) :
    Calls Tryz.prog 19 #[.pointer (some ⟨tb, 0, none⟩), .int .i64 k] w fun e w' => e = .returned (.int .i64 (valB (l.take k))) ∧ w' = tookW w tb g o c l k := by
  have kb := h.blk.cell; have lb := h.blk.lt; have fb := h.blk.froz
  have hc := h.cap
  have HCE := Lib.hid h.ce; have HOK := Lib.hid h.ok
  have lg := World.block_lt_of_cell? _ _ (h.ce 0 (by omega))
  have HTW : Hid (tookW w tb g o c l k = w.setCell ⟨tb, 0, none⟩ (.slice (some ⟨g, o + k, none⟩) (l.length - k) (c - k))) := Lib.hid rfl
  clear h
  obtain ⟨n, hn⟩ : ∃ n, l.length = n := ⟨_, rfl⟩
  have HN := Lib.hid hn
  rw [hn] at kb hc hk hl HTW
  clear hn
  go_enter Tryz.func19, Tryz.ntmps19
  go_wp2_with fail
  go_loopw [24, 5] (fun jv nv wr => ∃ j : Nat, j ≤ k ∧ jv = .int .i64 j ∧ nv = .int .i64 (valB (l.take j)) ∧ wr = w) (fun jv _ _ => k - (intOf jv).toNat)
  case atStart => exact ⟨0, by omega, rfl, by rw [List.take_zero, valB_nil], rfl⟩
  case round =>
    obtain ⟨j, hj, rfl, rfl, rfl⟩ := hrel
    have i0 : (0 : Int) ≤ (j : Int) := by omega
    by_cases hlt : j < k
    · have i1 : (j : Int) < (k : Int) := by omega
      have hjl : j < l.length := by rw [HN.out]; omega
      have d0 := HCE.out j hjl
      have hbc := HOK.out _ (List.getElem_mem hjl)
      have hvb := valB_b (l.take j) (fun x hx => HOK.out x (List.mem_of_mem_take hx))
      have hln : (l.take j).length = j := by simp; omega
      rw [hln] at hvb
      have hp : (256 : Int) ^ j ≤ 16777216 := by
        have hc : j = 0 ∨ j = 1 ∨ j = 2 ∨ j = 3 := by omega
        rcases hc with rfl | rfl | rfl | rfl <;> decide
      have hsn : valB (l.take (j + 1)) = valB (l.take j) * 256 + l[j] := by rw [List.take_succ_eq_append_getElem hjl, valB_snoc]
      have HSN := Lib.hid hsn
      obtain ⟨v0, v1⟩ := hvb
      generalize valB (l.take j) = v at *
      generalize l[j] = x at *
      obtain ⟨x0, x1⟩ := hbc
      have v2 : v < 16777216 := by omega
      have OR := or_bytesN v x v0 v2 x0 x1
      clear hsn hp v1 hln hjl
      go_wp2_with fail
      go_roundw
      case rel => exact ⟨j + 1, by omega, by go_num, by rw [HSN.out], by trivial⟩
      case measure => simp [intOf]; omega
    · obtain rfl : j = k := by omega
      go_wp2_with fail
      go_ret
      exact ⟨rfl, by rw [HTW.out]⟩
set_option maxRecDepth 100000 in
set_option maxHeartbeats 4000000 in
theorem take_short (tb g o c k : Nat) (l : List Int) (w : World) (h : TK w tb g o c l) (_hk4 : k ≤ 4) (hk : l.length < k) (_hl : l.length ≤ 100000) :
    Calls Tryz.prog 19 #[.pointer (some ⟨tb, 0, none⟩), .int .i64 k] w fun e w' => e = .panicked [{ v := .iface 96 (.agg #[]), recovered := false }] ∧ w = w' := by
  have kb := h.blk.cell; have lb := h.blk.lt
  have i1 : (l.length : Int) < (k : Int) := by omega
  clear h
  generalize l.length = n at *
  go_enter Tryz.func19, Tryz.ntmps19
  go_wp2_with fail
  exact ⟨rfl, rfl, rfl⟩
end Go.Proofs.YtajbfhdkghofbaaGreatDoor
