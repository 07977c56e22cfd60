/- reach.Ahead. -/
import Derived.Test.YtkfhefefhnmljaaFlood2
import Derived.Test.YtkfhefefhnmljaaCheck
namespace Go.Proofs.Ytkfhefefhnmljaa
open Go.RowKit

def aheadOf (ss : List StateL) (q : Nat) : List Nat := match ss[q]? with
  | some s => s.arcs.map fun a => a.to.toNat
  | none => []
theorem aheadOf_eq (ss : List StateL) (q : Nat) (h : q < ss.length) : aheadOf ss q = ss[q].arcs.map fun a => a.to.toNat := by simp [aheadOf, h]

theorem below_of_grown' {w0 w W : World} {R : Option Nat} (hb : Below w0.heap.size w0 w) (hg : w.grownBy W R) (hR : ∀ b, R = some b → w0.heap.size ≤ b) : Below w0.heap.size w0 W :=
  hb.grown hg hb.size (fun k hk => hR k hk)

set_option maxRecDepth 100000 in
set_option maxHeartbeats 4000000 in
theorem ahead_next (w0 w : World) (R : Option Nat) (mb : Nat) (st : Int) (A : Option Addr) (c : Nat) (ss : List StateL) (hS : StatesAt w0 A ss) (hn : ss.length ≤ 60) (hv : ∀ s ∈ ss, ∀ a ∈ s.arcs, 0 ≤ a.to ∧ a.to < ss.length) (hl : ∀ s ∈ ss, s.arcs.length ≤ 400)
    (hb : Below w0.heap.size w0 w) (hR : ∀ b, R = some b → w0.heap.size ≤ b) (hm : Blk w mb #[.int .i64 st, .slice A ss.length c] 27) (hmR : some mb ≠ R) :
    NextOk w R ss.length 51 #[.pointer (some ⟨mb, 0, none⟩)] (aheadOf ss) := by
  intro W x tv q hq hF
  have HFS := Lib.hid hF
  have HS := Lib.hid hS
  have HV := Lib.hid (hv _ (List.getElem_mem hq))
  have HM := Lib.hid hm
  have hlq := hl _ (List.getElem_mem hq)
  have bW : Below w0.heap.size w0 W := below_of_grown' hb hF.grown hR
  have hmW := hm.grown hF.grown hmR
  have k1 := hmW.cell; have l1 := hmW.lt
  have hSW := hS.below bW (Nat.le_refl _)
  have rd := hSW.rdy
  obtain ⟨A', c', d1', hA'⟩ := hS.c1 q hq
  have d1 := cell_keep bW (Nat.le_refl _) d1'
  have lA := World.block_lt_of_cell? _ _ d1
  have rdA := hA'.rdy
  have HA := Lib.hid hA'
  have i0 : (0 : Int) ≤ ↑q := by omega
  have i1 : (↑q : Int) < ↑ss.length := by omega
  have e0 := aheadOf_eq ss q hq
  generalize ss[q] = s at *
  have E0 := Lib.hid e0
  clear hS hv hl hm hmW hSW hA' d1' hF e0 rd
  have rd : Rdy A ss.length := HS.out.rdy
  go_enter Try.func51, Try.ntmps51
  go_wp2_with fail
  clear k1
  go_loopw [14] (fun i wr => ∃ (k : Nat) (tv' : Value), k ≤ s.arcs.length ∧ i = .int .i64 k ∧ FS w wr R ss.length (visits x ((s.arcs.take k).map fun a => a.to.toNat)) tv') (fun i _ => s.arcs.length - (intOf i).toNat)
  case atStart => exact ⟨0, tv, by omega, rfl, by simpa [visits] using HFS.out⟩
  case round =>
    obtain ⟨k, tv', hk, rfl, hF⟩ := hrel
    by_cases hlt : k < s.arcs.length
    · have bwr : Below w0.heap.size w0 wr := below_of_grown' hb hF.grown hR
      have hAr := HA.out.below bwr (Nat.le_refl _)
      have f0 := hAr.c0 k hlt; have f1 := hAr.c1 k hlt; have f2 := hAr.c2 k hlt; have f3 := hAr.c3 k hlt
      have hva := HV.out _ (List.getElem_mem hlt)
      have ht : (s.arcs.take (k + 1)).map (fun a => a.to.toNat) = (s.arcs.take k).map (fun a => a.to.toNat) ++ [s.arcs[k].to.toNat] := by
        rw [List.take_succ_eq_append_getElem hlt, List.map_append]; rfl
      generalize s.arcs[k] = a at *
      obtain ⟨p, hp⟩ : ∃ p : Nat, a.to = p := ⟨a.to.toNat, by omega⟩
      have hp2 : a.to.toNat = p := by omega
      have hpn : p < ss.length := by omega
      rw [hp] at f3
      rw [hp2] at ht
      have HT := Lib.hid ht
      have HF := Lib.hid hF
      have lA' := World.block_lt_of_cell? _ _ f0
      clear hAr hva ht hF hp hp2
      go_wp2_with fail
      refine (visit_any w _ R ss.length _ tv' (HF.out.keep ((Below.refl _ _).alloc (Nat.le_refl _) _)) p hpn (by omega)).mono ?_
      rintro e w4 ⟨rfl, tv4, hF4⟩
      have HF4 := Lib.hid hF4
      clear hF4
      go_wp2_with fail
      go_roundw
      case rel => exact ⟨k + 1, tv4, by omega, by go_num, by rw [HT.out, visits_snoc]; exact HF4.out⟩
      case measure => simp [intOf]; omega
    · have hke : s.arcs.take k = s.arcs := List.take_of_length_le (by omega)
      rw [hke] at hF
      have HF := Lib.hid hF
      clear hF hke
      go_wp2_with fail
      go_end0
      exact ⟨rfl, tv', by rw [E0.out]; exact HF.out⟩
end Go.Proofs.Ytkfhefefhnmljaa
