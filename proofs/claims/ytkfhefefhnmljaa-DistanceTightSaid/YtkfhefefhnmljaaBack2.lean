/- reach.Back walked. -/
import Derived.Test.YtkfhefefhnmljaaBack
namespace Go.Proofs.Ytkfhefefhnmljaa
open Go.RowKit

set_option maxRecDepth 100000 in
set_option maxHeartbeats 4000000 in
theorem back_next (w1 w : World) (n : Nat) (vs : List Value) (rows : List (List Nat)) (fv : Value) (es : List Nat) (h : BK w1 w n vs rows fv es) (hn : rows.length = n) (hn2 : n ≤ 60) (hr : ∀ l ∈ rows, l.length ≤ 400 ∧ ∀ p ∈ l, p < n) :
    NextOk w fv.ownBlock n 52 #[.pointer (some ⟨w1.heap.size + 1, 0, none⟩)] (fun q => rows.getD q []) := by
  intro W x tv q hq hF
  have HFS := Lib.hid hF
  have hqr : q < rows.length := by omega
  have hrq := hr _ (List.getElem_mem hqr)
  have gr : ∀ W', w.grownBy W' fv.ownBlock → Grid encN 3 38 1 (w1.heap.size + 2) W' w1.heap.size vs rows := fun W' hg => h.grid.grown hg (h.fv_ne (by omega)) (fun i hi k hk => fun e => h.ap i hi k e hk)
  have HG := Lib.hid gr
  have bb := h.bb.grown hF.grown (h.fv_ne (by omega)).symm
  have k1 := bb.cell; have l1 := bb.lt
  have hcell := (gr W hF.grown).cell q hqr
  have hqv : q < vs.length := by rw [h.grid.len]; exact hqr
  obtain ⟨A', c', hv, -, -⟩ := (gr W hF.grown).form q hqr
  rw [hv] at hcell
  have own : ∀ W', w.grownBy W' fv.ownBlock → W'.ownsRow (w1.heap.size + 2) 3 1 (.slice A' rows[q].length c') rows[q].length (ncells rows[q]) := fun W' hg => by
    rw [← hv, ← encN_cells]; exact (gr W' hg).own q hqr hqv
  have HOW := Lib.hid own
  have rdA := (Rd.of_own (own W hF.grown)).rdy
  have e0 : rows.getD q [] = rows[q] := by simp [List.getD_eq_getElem?_getD, hqr]
  have lG := World.block_lt_of_cell? _ _ hcell
  generalize rows[q] = l at *
  have E0 := Lib.hid e0
  have HRQ := Lib.hid hrq.2
  have hl := hrq.1
  have i0 : (0 : Int) ≤ ↑q := by omega
  have i1 : (↑q : Int) < ↑n := by omega
  clear h hr hrq gr bb own e0 hF hv
  go_enter Try.func52, Try.ntmps52
  go_wp2_with fail
  clear k1
  go_loopw [12] (fun i wr => ∃ (k : Nat) (tv' : Value), k ≤ l.length ∧ i = .int .i64 k ∧ FS w wr fv.ownBlock n (visits x (l.take k)) tv') (fun i _ => l.length - (intOf i).toNat)
  case atStart => exact ⟨0, tv, by omega, rfl, by simpa [visits] using HFS.out⟩
  case round =>
    obtain ⟨k, tv', hk, rfl, hF⟩ := hrel
    by_cases hlt : k < l.length
    · have hcellk := rdi_cell (Rd.of_own (HOW.out wr hF.grown)) k (by simpa using hlt)
      simp only [List.getElem_map] at hcellk
      have hpn := HRQ.out _ (List.getElem_mem hlt)
      have ht : l.take (k + 1) = l.take k ++ [l[k]] := List.take_succ_eq_append_getElem hlt
      generalize l[k] = p at *
      have HT := Lib.hid ht
      have HF := Lib.hid hF
      have lA := World.block_lt_of_cell? _ _ hcellk
      clear ht hF
      go_wp2_with fail
      refine (visit_any w _ fv.ownBlock n _ tv' HF.out p hpn (by omega)).mono ?_
      rintro e w4 ⟨rfl, tv4, hF4⟩
      have HF4 := Lib.hid hF4
      clear hF4
      go_wp2_with fail
      go_roundw
      case rel => exact ⟨k + 1, tv4, by omega, by go_num, by rw [HT.out, visits_snoc]; exact HF4.out⟩
      case measure => simp [intOf]; omega
    · have hke : l.take k = l := List.take_of_length_le (by omega)
      rw [hke] at hF
      have HF := Lib.hid hF
      clear hF hke
      go_wp2_with fail
      go_end0
      exact ⟨rfl, tv', by simp only [E0.out]; exact HF.out⟩
end Go.Proofs.Ytkfhefefhnmljaa
