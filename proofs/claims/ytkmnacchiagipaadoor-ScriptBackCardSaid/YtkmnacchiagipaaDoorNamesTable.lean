/- tropicakeep.table. -/
import Derived.Test.YtkmnacchiagipaaDoorNamesIdx
import Derived.Test.YtkmnacchiagipaaDoorIntArg
import Derived.Laws.IdiomStrings
namespace Go.Proofs.YtkmnacchiagipaaDoor
open Go.RowKit

theorem eltName : Elt Tryd.prog 30 37 (.agg #[.string ByteArray.empty, .int .i64 0]) 2 24 := ⟨Tryd.underlying30, by kernel_rfl, rfl, by omega⟩
abbrev OwnNames (w : World) (B : Nat) (v : Value) (l : List NameL) : Prop := w.ownsRow B 37 2 v l.length (namesC l)
set_option maxRecDepth 100000 in
set_option maxHeartbeats 4000000 in
theorem table_names (A : Option Addr) (n c : Nat) (xs : List Int) (w : World) (hx : IntArg w A n xs) :
    Calls Tryd.prog 13 #[.slice A n c] w fun e w' => ∃ v, e = .returned v ∧ OwnNames w' w.heap.size v (tabL xs) ∧ Below w.heap.size w w' := by
  have HX := Lib.hid hx
  have rd := hx.rd.rdy
  have hxn : xs.length = n := hx.len
  clear hx
  go_enter Tryd.func13, Tryd.ntmps13
  go_wp2_with fail
  go_loopw [3, 4] (fun tv iv wr => ∃ k : Nat, k ≤ n ∧ k ≤ 100 ∧ iv = .int .i64 k ∧ OwnNames wr w.heap.size tv (tabN xs k) ∧ Below w.heap.size w wr) (fun _ iv _ => 100 - (intOf iv).toNat)
  case atStart => exact ⟨0, by omega, by omega, rfl, World.ownsRow_nil _ _ _ _, Below.refl _ _⟩
  case round =>
    obtain ⟨k, hk, hk1, rfl, hO, hb⟩ := hrel
    obtain ⟨wo, rfl⟩ : ∃ wo : World, wo = wr := ⟨_, rfl⟩
    have HO := Lib.hid hO; have HB := Lib.hid hb
    clear hO hb
    have i0 : (0 : Int) ≤ (k : Int) := by omega
    by_cases hlt : k < n ∧ k < 100
    · obtain ⟨h1, h2⟩ := hlt
      have i1 : (k : Int) < (n : Int) := by omega
      have i2 : (k : Int) < 100 := by omega
      have hkx : k < xs.length := by omega
      have d0 := (HX.out.below HB.out).cell k hkx
      have hbd := HX.out.bd _ (List.getElem_mem hkx)
      have HTS := Lib.hid (tabN_succ xs k hkx)
      have HPK := Lib.hid (fun W => picked_any xs[k] 10 W hbd.1 hbd.2 (by omega) (by omega))
      have hp0 := pick_lo xs[k] 10 (by omega); have hp1 := pick_hi xs[k] 10 (by omega)
      have HRW : Hid (rowN k xs[k] = ⟨[UInt8.ofNat (97 + k % 26), UInt8.ofNat (48 + k / 26), UInt8.ofNat (97 + (pick xs[k] 10).toNat)], 1 + (10 * (k : Int)) % 1000 + pick xs[k] 10⟩) := Lib.hid rfl
      generalize pick xs[k] 10 = p at *
      generalize xs[k] = x at *
      have hcv : ∀ o : World, (convert 86 9 (.slice (some ⟨wo.heap.size, 0, none⟩) 3 3)).run Tryd.prog (wo.alloc (.cells #[.int .u8 (97 + (k : Int) % 26), .int .u8 (48 + (k : Int) / 26), .int .u8 (97 + p)] 5)) = .ok (strV (rowN k x).text) (wo.alloc (.cells #[.int .u8 (97 + (k : Int) % 26), .int .u8 (48 + (k : Int) / 26), .int .u8 (97 + p)] 5)) := fun _ => by
        rw [HRW.out]
        have B := Blk.new wo #[.int .u8 (97 + (k : Int) % 26), .int .u8 (48 + (k : Int) / 26), .int .u8 (97 + p)] 5
        refine run_convert_bytes_back _ 86 9 5 ⟨wo.heap.size, 0, none⟩ 3 [UInt8.ofNat (97 + k % 26), UInt8.ofNat (48 + k / 26), UInt8.ofNat (97 + p.toNat)] Tryd.underlying86 Tryd.underlying5 Tryd.underlying9 (fun j hj => ?_)
        rw [addr_add, Nat.zero_add, B.cell j]
        have h3 : j < 3 := by simpa using hj
        have hc : j = 0 ∨ j = 1 ∨ j = 2 := by omega
        rcases hc with rfl | rfl | rfl
        · show some (Value.int .u8 (97 + (k : Int) % 26)) = some (Value.int .u8 ((UInt8.ofNat (97 + k % 26)).toNat : Int))
          rw [u8_toNat _ (by omega)]; congr 2
        · show some (Value.int .u8 (48 + (k : Int) / 26)) = some (Value.int .u8 ((UInt8.ofNat (48 + k / 26)).toNat : Int))
          rw [u8_toNat _ (by omega)]; congr 2
        · show some (Value.int .u8 (97 + p)) = some (Value.int .u8 ((UInt8.ofNat (97 + p.toNat)).toNat : Int))
          rw [u8_toNat _ (by omega)]; congr 2; omega
      have hlab : (rowN k x).label = 1 + 10 * (k : Int) % 1000 + p % 10 := by rw [HRW.out]; simp only; omega
      have hcv2 := hcv wo
      have HLAB := Lib.hid hlab
      have hnc : namesC (tabN xs (k + 1)) = namesC (tabN xs k) ++ [strV (rowN k x).text, .int .i64 (rowN k x).label] := by rw [HTS.out]; simp [namesC, nameC]
      have HNC := Lib.hid hnc
      have hlk := tabN_len xs k (by omega)
      have hlk1 := tabN_len xs (k + 1) (by omega)
      have HLK1 := Lib.hid hlk1
      unfold OwnNames at HO
      rw [hlk] at HO
      clear hlab hnc hcv hlk1 hlk HRW
      generalize rowN k x = rn at *
      go_wp2_with fail
      refine (HPK.out _).mono ?_; rintro e w_ ⟨rfl, rfl⟩
      go_upto_region 7 with fail
      have hbx : Below wo.heap.size wo (wo.alloc (.cells #[.int .u8 (97 + (k : Int) % 26), .int .u8 (48 + (k : Int) / 26), .int .u8 (97 + p)] 5)) := (by repeat' (first | exact Below.refl _ _ | assumption | refine Below.drew ?_ | refine Below.alloc ?_ (by first | omega | (simp; done) | (simp; omega)) _ | refine Below.setCell ?_ (by first | omega | (simp; done) | (simp; omega)) _))
      have HO2 := Lib.hid (own_below HO.out hbx (Nat.le_refl _))
      have HB2 := Lib.hid (HB.out.trans (hbx.mono HB.out.size))
      have hz := HB2.out.size
      clear hcv2 hbx
      generalize wo.alloc (.cells #[.int .u8 (97 + (k : Int) % 26), .int .u8 (48 + (k : Int) / 26), .int .u8 (97 + p)] 5) = w2 at *
      obtain ⟨A5, c5, hv5, -, -⟩ := own_form HO.out
      subst hv5
      clear d0
      go_wp2_with (at_builtin; refine wpList_app1 rfl _ _ rfl eltName w.heap.size (.slice A5 k c5) k (namesC (tabN xs k)) rfl w2 HO2.out #[strV rn.text, .int .i64 (1 + 10 * (k : Int) % 1000 + p % 10)] rfl w2.heap.size rfl rfl rfl (by simp [Value.oneCell']) (by omega) (by omega) hz ?_; intro g3 cap w9 ho9 hg9 hat9 hlt9)
      have HO9 : Hid (OwnNames w9 w.heap.size (.slice (some ⟨g3, 0, none⟩) (k + 1) cap) (tabN xs (k + 1))) := Lib.hid (by
        unfold OwnNames; rw [HLK1.out, HNC.out, HLAB.out]; exact ho9)
      have HB9 := Lib.hid (below_app HB2.out HO2.out hg9 (Nat.le_refl _) hz)
      clear ho9 hg9 hat9
      go_roundw
      case rel => exact ⟨k + 1, by omega, by omega, by go_num, HO9.out, HB9.out⟩
      case measure => simp [intOf]; omega
    · have htk : tabN xs k = tabL xs := by
        unfold tabL tabN
        by_cases h : k = 100
        · rw [h]
        · rw [List.take_of_length_le (show xs.length ≤ k by omega), List.take_of_length_le (show xs.length ≤ 100 by omega)]
      rw [htk] at HO
      clear htk
      by_cases h1 : k < n
      · have i1 : (k : Int) < (n : Int) := by omega
        have i2 : ¬ (k : Int) < 100 := by omega
        clear hlt h1
        go_wp2_with fail
        go_ret
        exact ⟨_, rfl, HO.out, HB.out⟩
      · have i1 : ¬ (k : Int) < (n : Int) := by omega
        clear hlt h1
        go_wp2_with fail
        go_ret
        exact ⟨_, rfl, HO.out, HB.out⟩
end Go.Proofs.YtkmnacchiagipaaDoor
