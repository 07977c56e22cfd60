/- packed.Decode of bytes whose sum is wrong. -/
import Derived.Test.YtajbfhdkghofbaaGreatDoorTake
import Derived.Test.YtajbfhdkghofbaaGreatDoorEncode
import Derived.Test.YtajbfhdkghofbaaGreatDoorBuild
import Derived.RegionTactic
namespace Go.Proofs.YtajbfhdkghofbaaGreatDoor
open Go.RowKit

set_option maxRecDepth 100000 in
set_option maxHeartbeats 4000000 in
theorem Decode_bad (g c k : Nat) (l : List Int) (w : World) (hl : l.length = k + 2) (hr : Rd w (some ⟨g, 0, none⟩) (k + 2) 1 (ucells l)) (hk : 3 ≤ k) (hk2 : k ≤ 7000) (hc : k + 2 ≤ c) (hb : BOk l)
    (hne : ((crcOf 0xffff#16 (l.take k)).toNat : Int) ≠ l.getD k 0 * 256 + l.getD (k + 1) 0) :
    Calls Tryz.prog 8 #[.slice (some ⟨g, 0, none⟩) (k + 2) c] w fun e w' => e = .returned (.tuple #[.agg #[.int .i64 0, .slice none 0 0], .int .i64 11]) ∧ Below w.heap.size w w' := by
  have hc0 : ∀ i (h : i < l.length), w.cell? ⟨g, i, none⟩ = some (.int .u8 l[i]) := fun i h => by
    have := hr.at' (ucells_get l i h)
    simpa only [blk_some, ofs_some, Nat.zero_add] using this
  have k0 := hc0 k (by omega)
  have k1 := hc0 (k + 1) (by omega)
  have hx := hb _ (List.getElem_mem (show k < l.length by omega))
  have hy := hb _ (List.getElem_mem (show k + 1 < l.length by omega))
  have e0 : l.getD k 0 = l[k]'(by omega) := by simp [List.getD_eq_getElem?_getD, hl]
  have e1 : l.getD (k + 1) 0 = l[k + 1]'(by omega) := by simp [List.getD_eq_getElem?_getD, hl]
  rw [e0, e1] at hne
  have HBT : Hid (BOk (l.take k)) := Lib.hid (fun c hc => hb c (List.mem_of_mem_take hc))
  have hlt : (l.take k).length = k := by simp; omega
  have HRD : Hid (∀ W, Below w.heap.size w W → Rd W (some ⟨g, 0, none⟩) k 1 (ucells (l.take k))) := Lib.hid (fun W hW => by
    refine ⟨by simp [ucells]; omega, rdy_some _ _ _, fun j hj => ?_⟩
    have hj2 : j < k := by simp [ucells] at hj; omega
    have h1 := cell_keep hW (Nat.le_refl _) (hc0 j (by omega))
    simp only [blk_some, ofs_some, Nat.zero_add]
    rw [h1]
    simp [ucells])
  clear hc0 e0 e1 hb hr
  generalize l[k]'(by omega) = x at *
  generalize l[k + 1]'(by omega) = y at *
  generalize l.take k = bd at *
  obtain ⟨hx0, hx1⟩ := hx
  obtain ⟨hy0, hy1⟩ := hy
  have lg := World.block_lt_of_cell? _ _ k0
  have hwr : IntKind.i64.wrap ((k : Int) + 2 - 2) = (k : Int) := by rw [IntWalk.i64_in _ (by omega)]; omega
  have HNE := Lib.hid hne; clear hne
  have HL := Lib.hid hl; clear hl
  go_enter Tryz.func8, Tryz.ntmps8
  go_upto_region 5 with fail
  have R1 : Blk (w.alloc (.cells #[.int .i64 0, .slice none 0 0] 27)) w.heap.size #[.int .i64 0, .slice none 0 0] 27 := Blk.new _ _ _
  have b1 : Below w.heap.size w (w.alloc (.cells #[.int .i64 0, .slice none 0 0] 27)) := (Below.refl _ _).alloc (Nat.le_refl _) _
  have k0a := cell_keep b1 (Nat.le_refl _) k0; have k1a := cell_keep b1 (Nat.le_refl _) k1
  have lg1 : g < (w.alloc (.cells #[.int .i64 0, .slice none 0 0] 27)).heap.size := Nat.lt_of_lt_of_le lg b1.size
  generalize w.alloc (.cells #[.int .i64 0, .slice none 0 0] 27) = w1 at *
  go_region
  have T2 : Blk (w1.alloc (.cells #[.slice (some ⟨g, k, none⟩) 2 (c - k)] 62)).drew w1.heap.size #[.slice (some ⟨g, k, none⟩) 2 (c - k)] 62 := (Blk.new _ _ _).drew
  have b12 : Below w1.heap.size w1 (w1.alloc (.cells #[.slice (some ⟨g, k, none⟩) 2 (c - k)] 62)).drew := ((Below.refl _ _).alloc (Nat.le_refl _) _).drew
  have b2 := b1.trans (b12.mono b1.size)
  have R2 := Lib.hid (R1.step b12)
  have k0b := cell_keep b12 (Nat.le_refl _) k0a; have k1b := cell_keep b12 (Nat.le_refl _) k1a
  have hs1 := b1.size
  have hlR := R1.lt
  generalize (w1.alloc (.cells #[.slice (some ⟨g, k, none⟩) 2 (c - k)] 62)).drew = w2 at *
  clear b12 k0 k1 k0a k1a lg lg1 R1 b1
  go_wp2_with fail
  refine (take2_any w1.heap.size g k (c - k) x y w2 T2 (by omega) k0b k1b hx0 hx1 hy0 hy1).mono ?_; rintro e w3 ⟨rfl, hg3⟩
  have b3 := below_of_grown b2 hg3 b2.size hs1
  have R3 := R2.out.grown hg3 (by simp; omega)
  have hsum := sum_any (some ⟨g, 0, none⟩) c bd w3 (by rw [hlt]; exact HRD.out _ b3) (by omega) HBT.out
  rw [hlt] at hsum
  have HSUM := Lib.hid hsum
  have lr := R3.lt
  have HR3 := Lib.hid R3
  clear hsum hg3 R3 T2 b2 R2 k0b k1b hlR
  go_wp2_with fail
  refine HSUM.out.mono ?_; rintro e w4 ⟨rfl, rfl⟩
  have hne := HNE.out
  have hSl := (crcOf 65535#16 bd).isLt
  have hS0 : (0 : Int) ≤ ((crcOf 65535#16 bd).toNat : Int) := by omega
  have hS1 : ((crcOf 65535#16 bd).toNat : Int) ≤ 65535 := by omega
  generalize ((crcOf 65535#16 bd).toNat : Int) = nS at *
  have n0 : ¬ (x * 256 + y = nS) := fun e => hne e.symm
  have n1 : (x * 256 + y == nS) = false := by simpa using n0
  have n2 : (x * 256 + y != nS) = true := by simpa using n0
  have kr := HR3.out.cell; have fr := HR3.out.froz
  clear hne hSl HSUM HNE
  go_wp2_with fail
  refine bodyPost_ret (v := .tuple #[.agg #[.int .i64 0, .slice none 0 0], .int .i64 11]) (by simp [results, Tryz.results8, go_sem, *]) rfl ⟨rfl, ?_⟩
  exact (b3.setCell (by simp) _).setCell (by simp) _
end Go.Proofs.YtajbfhdkghofbaaGreatDoor
