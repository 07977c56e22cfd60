/- strings.Lines, walked: what it hands to the loop's rounds. -/
import Derived.Test.YtkmnacchiagipaaDoorRangeLines
import Derived.Test.YtkmnacchiagipaaDoorLayI
import Derived.RegionIn
import Derived.TacticsIn
import Derived.Lib.Hide
import Derived.Lib.SplitLaws
import Derived.Test.YtkmnacchiagipaaDoorSlices
namespace Go.Proofs.YtkmnacchiagipaaDoor
open Go.RowKit
attribute [local go_sem] Oper.semAt_some

theorem index_any (s : ByteArray) (w : World) : Calls Tryd.prog 80 #[.string s, .int .u8 10] w fun e w' => e = .returned (.int .i64 (Lib.indexByte s.data.toList 10)) ∧ w' = w := Any.strings_IndexByte Tryd.lays137 s 10 w
theorem Lines_any (s : ByteArray) (w : World) : Calls Tryd.prog 40 #[.string s] w fun e w' => e = .returned (.func (.func 79) #[] #[.pointer (some ⟨w.heap.size, 0, none⟩)]) ∧ w' = w.alloc (.cells #[.string s] 9) := by
  have hmf : ∀ (fn : Fn) (first cap : Array Value) (w : World), (Instr.makeFunc fn first cap).run Tryd.prog w = .ok (.func fn first cap) w := fun _ _ _ _ => rfl
  go_enter Tryd.func40, Tryd.ntmps40
  go_wp2
  go_ret
  exact ⟨rfl, rfl⟩

theorem bytes_of {a : ByteArray} {l : List UInt8} (h : a.data.toList = l) : (⟨l.toArray⟩ : ByteArray) = a := by subst h; rfl
/-- how much is left -/
def leftB (W : World) (b : Nat) : Nat := match W.cell? ⟨b, 0, none⟩ with
  | some (.string s) => s.size
  | _ => 0
theorem leftB_eq {W : World} {b T : Nat} {s : ByteArray} (h : Boxed W b T (.string s)) : leftB W b = s.size := by
  unfold leftB; rw [h.cell]

set_option maxRecDepth 100000 in
set_option maxHeartbeats 4000000 in
theorem lines_run : LinesRun Tryd.prog 79 9 := by
  intro n l Bs s W J Jx hsl hset hdrw hY hB h0
  have HY := Lib.hid hY; have HS := Lib.hid hset; have HD := Lib.hid hdrw
  clear hY hset hdrw
  refine callsIn_of_wp Tryd.func79 rfl trivial ?_ rfl
  simp only [Tryd.ntmps79, List.size_toArray, List.length_cons, List.length_nil, Nat.reduceAdd, Nat.reduceSub, Array.replicate_succ, Array.replicate_zero, List.push_toArray, List.append_toArray, List.nil_append, List.cons_append]
  gi_wp2
  gi_loopw [] (fun wr => ∃ (pre : List (List UInt8)) (rest : List UInt8), linesL s = pre ++ linesL rest ∧ rest.length ≤ 1000000000 ∧ Boxed wr Bs 9 (.string ⟨rest.toArray⟩) ∧ J pre wr) (fun wr => leftB wr Bs)
  case atStart => exact ⟨[], s, rfl, hsl, hB, h0⟩
  case round =>
    obtain ⟨pre, rest, hx, hrl9, hb, hj⟩ := hrel
    have HX := Lib.hid hx; have HB := Lib.hid hb; have HJ := Lib.hid hj
    clear hx hj hB h0
    have c0 := hb.cell; have f0 := hb.frozen; have lb := hb.lt
    clear hb
    have hsz : (⟨rest.toArray⟩ : ByteArray).size = rest.length := rfl
    by_cases hr : rest = []
    · have i0 : ¬ (0 : Int) < ((⟨rest.toArray⟩ : ByteArray).size : Int) := by rw [hsz, hr]; simp
      subst hr
      gi_wp2
      go_end0
      exact ⟨⟨_, rfl⟩, .inl (by rw [HX.out, linesL_nil, List.append_nil]; exact HJ.out)⟩
    · have hlc := linesL_cons rest hr
      have h1 := lineOf_rest rest
      have hrl := restOf_le rest hr
      rw [hlc] at HX
      have hix := Lib.indexByte_ge rest 10
      have hiy := indexByte_in 10 rest
      have HLO : Hid (lineOf rest = if 0 ≤ Lib.indexByte rest 10 then rest.take ((Lib.indexByte rest 10).toNat + 1) else rest) := Lib.hid rfl
      have HRO : Hid (restOf rest = if 0 ≤ Lib.indexByte rest 10 then rest.drop ((Lib.indexByte rest 10).toNat + 1) else []) := Lib.hid rfl
      generalize lineOf rest = x at *
      generalize restOf rest = rs at *
      obtain ⟨r, hrr⟩ : ∃ r : ByteArray, r = ⟨rest.toArray⟩ := ⟨_, rfl⟩
      have hdl : r.data.toList = rest := by rw [hrr]
      have IX := Lib.hid (fun W => index_any r W)
      rw [hdl] at IX
      rw [← hrr] at c0 hsz HB
      have hpos : 0 < rest.length := List.length_pos_iff.2 hr
      have i0 : (0 : Int) < (r.size : Int) := by omega
      generalize Lib.indexByte rest 10 = k at *
      have HDL := Lib.hid hdl
      have hrb : r.size = rest.length := hsz
      clear hlc hdl hrr hsz
      have HSZ := Lib.hid hrb
      clear hrb
      have hB' := HB.out
      have boxS : ∀ v, Boxed (wr.setCell ⟨Bs, 0, none⟩ v) Bs 9 v := fun v => hB'.set v
      by_cases hk : 0 ≤ k
      · obtain ⟨i, rfl⟩ : ∃ i : Nat, k = i := ⟨k.toNat, by omega⟩
        have hi : i < r.size := by have := HSZ.out; omega
        have hX : x = rest.take (i + 1) := by have := HLO.out; rw [if_pos hk] at this; simpa using this
        have hR : rs = rest.drop (i + 1) := by have := HRO.out; rw [if_pos hk] at this; simpa using this
        have c1 : (0 : Int) ≤ ↑i + 1 := by omega
        have c2 : (↑i : Int) + 1 ≤ ↑r.size := by omega
        have hw1 : IntKind.i64.wrap ((i : Int) + 1) = i + 1 := IntWalk.i64_in _ (by have := HSZ.out; omega)
        have mixed : Tryd.prog.follows .mixedOrders = true := by kernel_rfl
        have e0 : (⟨x.toArray⟩ : ByteArray) = r.extract 0 (i + 1) := bytes_of (by rw [Lib.extract_from_zero, HDL.out, hX])
        have e1 : r.extract (i + 1) r.size = ⟨rs.toArray⟩ := (bytes_of (by rw [Lib.extract_to_end, HDL.out, hR])).symm
        have hj2 := HD.out pre _ (HS.out pre _ (.string (r.extract (i + 1) r.size)) HJ.out)
        obtain ⟨fn, tmps, assign, body, hy, hRd⟩ := HY.out pre x (linesL rs) _ HX.out hj2
        rw [e0] at hy
        have bx2 : Boxed (wr.setCell ⟨Bs, 0, none⟩ (.string (r.extract (i + 1) r.size))).drew Bs 9 (.string ⟨rs.toArray⟩) := by
          have := boxS (.string (r.extract (i + 1) r.size))
          rw [e1] at this ⊢; exact this
        have HB0 := HB
        clear hix hiy HLO HRO hB' hX hR hj2 boxS HB HJ e0 e1
        gi_wp2_with (refine ⟨trivial, ?_⟩; gi_at_call 80; refine (callsIn_wide.2 (IX.out _)).mono ?_; rintro e w' ⟨rfl, rfl⟩)
        gi_region_o
        all_goals gi_wp2
        generalize hW2 : (w'.setCell ⟨Bs, 0, none⟩ (.string (r.extract (i + 1) r.size))).drew = W2 at *
        refine hRd.mono ?_
        rintro e W3 (⟨rfl, hJ3, hk3⟩ | ⟨rfl, hJx3⟩)
        · gi_wp2
          go_roundw
          case rel => exact ⟨pre ++ [x], rs, by rw [HX.out]; simp, by omega, hk3.trans bx2, hJ3⟩
          case measure =>
            have hb3 : Boxed W3 Bs 9 (.string ⟨rs.toArray⟩) := hk3.trans bx2
            have hb0 : Boxed _ Bs 9 (.string r) := HB0.out
            rw [leftB_eq hb3, leftB_eq hb0]
            have := HSZ.out; show rs.length < _; omega
        · gi_wp2
          refine bodyPost_ret (results_none rfl _ _ _) rfl ?_
          exact ⟨⟨_, rfl⟩, .inr hJx3⟩
      · have hX : x = rest := by have := HLO.out; rw [if_neg hk] at this; exact this
        have hR : rs = [] := by have := HRO.out; rw [if_neg hk] at this; exact this
        have hr0 : (⟨x.toArray⟩ : ByteArray) = r := by rw [hX, ← HDL.out]
        have hj2 := HS.out pre _ (.string ⟨#[]⟩) HJ.out
        obtain ⟨fn, tmps, assign, body, hy, hRd⟩ := HY.out pre x (linesL rs) _ HX.out hj2
        rw [hr0] at hy
        have bx2 := boxS (.string ⟨#[]⟩)
        have HH := Lib.hid (And.intro hX (And.intro hR hr0))
        have HB0 := HB
        clear hix hiy HLO HRO hX hR hr0 hj2 boxS hB' HB HJ
        generalize hW2 : wr.setCell ⟨Bs, 0, none⟩ (.string ⟨#[]⟩) = W2 at *
        gi_wp2_with (refine ⟨trivial, ?_⟩; gi_at_call 80; refine (callsIn_wide.2 (IX.out _)).mono ?_; rintro e w' ⟨rfl, rfl⟩)
        refine hRd.mono ?_
        rintro e W3 (⟨rfl, hJ3, hk3⟩ | ⟨rfl, hJx3⟩)
        · gi_wp2
          go_roundw
          case rel => exact ⟨pre ++ [x], rs, by rw [HX.out]; simp, by omega, by rw [HH.out.2.1]; exact hk3.trans bx2, hJ3⟩
          case measure =>
            have hb3 : Boxed W3 Bs 9 (.string ⟨#[]⟩) := hk3.trans bx2
            have hb0 : Boxed _ Bs 9 (.string r) := HB0.out
            rw [leftB_eq hb3, leftB_eq hb0]
            have := HSZ.out; show 0 < _; omega
        · gi_wp2
          refine bodyPost_ret (results_none rfl _ _ _) rfl ?_
          exact ⟨⟨_, rfl⟩, .inr hJx3⟩
end Go.Proofs.YtkmnacchiagipaaDoor
