/- alike: two machines that are the same. -/
import Derived.Test.YtkmnacchiagipaaDoorBuild
import Derived.Test.YtkmnacchiagipaaDoorPick
import Derived.LoopTactic
import Derived.Deep.DeepCutAuto
import Derived.Deep.CutBlock
import Derived.Deep.RegionHeld3
namespace Go.Proofs.YtkmnacchiagipaaDoor
open Go.RowKit

set_option maxRecDepth 100000 in
set_option maxHeartbeats 4000000 in
theorem sameState_yes (A A' : Option Addr) (c c' : Nat) (f : Int) (l : List ArcL) (w : World) (h : ArcsAt w A l) (h' : ArcsAt w A' l) (hl : l.length ≤ 1000000) :
    Calls Tryd.prog 49 #[.agg #[.int .i64 f, .slice A l.length c], .agg #[.int .i64 f, .slice A' l.length c']] w fun e w' => e = .returned (.bool true) ∧ Below w.heap.size w w' := by
  have H := Lib.hid h; have H' := Lib.hid h'
  have rd := h.rdy; have rd' := h'.rdy
  clear h h'
  go_enter Tryd.func49, Tryd.ntmps49
  go_wp2_with fail
  go_loopw [5] (fun i wr => ∃ k : Nat, k ≤ l.length ∧ i = .int .i64 k ∧ Below (w.heap.size + 1 + 1) ((w.alloc (.cells #[.int .i64 f, .slice A l.length c] 76)).alloc (.cells #[.int .i64 f, .slice A' l.length c'] 76)) wr) (fun i _ => l.length - (intOf i).toNat)
  case atStart => exact ⟨0, by omega, rfl, Below.refl _ _⟩
  case round =>
    obtain ⟨k, hk, rfl, bel⟩ := hrel
    have bw : Below w.heap.size w wr := ((by repeat' (first | exact Below.refl _ _ | assumption | refine Below.drew ?_ | refine Below.alloc ?_ (by first | omega | (simp; done) | (simp; omega)) _ | refine Below.setCell ?_ (by first | omega | (simp; done) | (simp; omega)) _)) : Below w.heap.size w _).trans (bel.mono (by omega))
    have hsz := bel.size
    simp at hsz
    obtain ⟨c1, f1⟩ := bcell (show Below ((w.alloc (.cells #[.int .i64 f, .slice A l.length c] 76)).alloc (.cells #[.int .i64 f, .slice A' l.length c'] 76)).heap.size _ wr from by simpa using bel)
    have y0 : w.heap.size < wr.heap.size := by omega
    have y1 : w.heap.size + 1 < wr.heap.size := by omega
    by_cases hlt : k < l.length
    · have hr := H.out.below bw (Nat.le_refl _)
      have hr' := H'.out.below bw (Nat.le_refl _)
      have d0 := hr.c0 k hlt; have d1 := hr.c1 k hlt; have d2 := hr.c2 k hlt; have d3 := hr.c3 k hlt
      have e0 := hr'.c0 k hlt; have e1 := hr'.c1 k hlt; have e2 := hr'.c2 k hlt; have e3 := hr'.c3 k hlt
      generalize l[k] = a at *
      have s1 : wr.cell? ⟨w.heap.size, 1, none⟩ = some (.slice A l.length c) := by simp [go_sem, *]
      have s2 : wr.cell? ⟨w.heap.size + 1, 1, none⟩ = some (.slice A' l.length c') := by simp [go_sem, *]
      clear hr hr' c1 f1
      go_wp2_with fail
      go_region_held3 (fun w' => w'.cell? ⟨w.heap.size, 1, none⟩ = some (.slice A l.length c) ∧ w'.cell? ⟨w.heap.size + 1, 1, none⟩ = some (.slice A' l.length c') ∧ w'.cell? ⟨blk A, ofs A + k * 4, none⟩ = some (.int .i64 a.inn) ∧ w'.cell? ⟨blk A, ofs A + k * 4 + 1, none⟩ = some (.int .i64 a.out) ∧ w'.cell? ⟨blk A, ofs A + k * 4 + 2, none⟩ = some (.int .i64 a.wt) ∧ w'.cell? ⟨blk A, ofs A + k * 4 + 3, none⟩ = some (.int .i64 a.to) ∧ w'.cell? ⟨blk A', ofs A' + k * 4, none⟩ = some (.int .i64 a.inn) ∧ w'.cell? ⟨blk A', ofs A' + k * 4 + 1, none⟩ = some (.int .i64 a.out) ∧ w'.cell? ⟨blk A', ofs A' + k * 4 + 2, none⟩ = some (.int .i64 a.wt) ∧ w'.cell? ⟨blk A', ofs A' + k * 4 + 3, none⟩ = some (.int .i64 a.to)) (go_keep) (fail)
      go_wp2_with fail
      go_roundw
      case rel => exact ⟨k + 1, by omega, by go_num, bel.drew⟩
      case measure => simp [intOf]; omega
    · go_wp2_with fail
      go_ret
      exact ⟨rfl, bw⟩

set_option maxRecDepth 100000 in
set_option maxHeartbeats 4000000 in
theorem alike_yes (va vb : Value) (m : MachL) (w : World) (ha : MachAt w va m) (hb : MachAt w vb m) (h60 : m.states.length ≤ 60) (hal : ∀ s ∈ m.states, s.arcs.length ≤ 1000000) :
    Calls Tryd.prog 20 #[va, vb] w fun e w' => e = .returned (.bool true) ∧ Below w.heap.size w w' := by
  obtain ⟨A, c, rfl, h⟩ := ha
  obtain ⟨A', c', rfl, h'⟩ := hb
  have H := Lib.hid h; have H' := Lib.hid h'
  have rd := h.rdy; have rd' := h'.rdy
  have HAL := Lib.hid hal
  clear h h' hal
  generalize m.states = ss at *
  generalize m.start = st at *
  go_enter Tryd.func20, Tryd.ntmps20
  go_wp2_with fail
  go_loopw [5] (fun i wr => ∃ k : Nat, k ≤ ss.length ∧ i = .int .i64 k ∧ Below (w.heap.size + 1 + 1) ((w.alloc (.cells #[.int .i64 st, .slice A ss.length c] 41)).alloc (.cells #[.int .i64 st, .slice A' ss.length c'] 41)) wr) (fun i _ => ss.length - (intOf i).toNat)
  case atStart => exact ⟨0, by omega, rfl, Below.refl _ _⟩
  case round =>
    obtain ⟨k, hk, rfl, bel⟩ := hrel
    have bw : Below w.heap.size w wr := ((by repeat' (first | exact Below.refl _ _ | assumption | refine Below.drew ?_ | refine Below.alloc ?_ (by first | omega | (simp; done) | (simp; omega)) _ | refine Below.setCell ?_ (by first | omega | (simp; done) | (simp; omega)) _)) : Below w.heap.size w _).trans (bel.mono (by omega))
    have hsz := bel.size
    simp at hsz
    obtain ⟨c1, f1⟩ := bcell (show Below ((w.alloc (.cells #[.int .i64 st, .slice A ss.length c] 41)).alloc (.cells #[.int .i64 st, .slice A' ss.length c'] 41)).heap.size _ wr from by simpa using bel)
    have y0 : w.heap.size < wr.heap.size := by omega
    have y1 : w.heap.size + 1 < wr.heap.size := by omega
    by_cases hlt : k < ss.length
    · have hr := H.out.below bw (Nat.le_refl _)
      have hr' := H'.out.below bw (Nat.le_refl _)
      have d0 := hr.c0 k hlt
      have e0 := hr'.c0 k hlt
      obtain ⟨B, q, d1, hB⟩ := hr.c1 k hlt
      obtain ⟨B', q', e1, hB'⟩ := hr'.c1 k hlt
      have hal := HAL.out ss[k] (List.getElem_mem hlt)
      generalize ss[k] = s at *
      have s1 : wr.cell? ⟨w.heap.size, 1, none⟩ = some (.slice A ss.length c) := by simp [go_sem, *]
      have s2 : wr.cell? ⟨w.heap.size + 1, 1, none⟩ = some (.slice A' ss.length c') := by simp [go_sem, *]
      have HS := Lib.hid (fun W (hw : Below wr.heap.size wr W) => sameState_yes B B' q q' s.final s.arcs W (hB.below hw (Nat.le_refl _)) (hB'.below hw (Nat.le_refl _)) hal)
      clear hr hr' c1 f1 hB hB'
      have k1 := Lib.hid (fun W (hw : Below wr.heap.size wr W) => cellB hw s1); have k2 := Lib.hid (fun W (hw : Below wr.heap.size wr W) => cellB hw s2)
      have k3 := Lib.hid (fun W (hw : Below wr.heap.size wr W) => cellB hw d0); have k4 := Lib.hid (fun W (hw : Below wr.heap.size wr W) => cellB hw d1)
      have k5 := Lib.hid (fun W (hw : Below wr.heap.size wr W) => cellB hw e0); have k6 := Lib.hid (fun W (hw : Below wr.heap.size wr W) => cellB hw e1)
      go_upto_block 1 with fail
      go_cut [] (fun wx => Below wr.heap.size wr wx)
      case first =>
        go_wp2_with fail
        go_region_held3 (fun w' => w'.cell? ⟨w.heap.size, 1, none⟩ = some (.slice A ss.length c) ∧ w'.cell? ⟨w.heap.size + 1, 1, none⟩ = some (.slice A' ss.length c') ∧ w'.cell? ⟨blk A, ofs A + k * 2, none⟩ = some (.int .i64 s.final) ∧ w'.cell? ⟨blk A, ofs A + k * 2 + 1, none⟩ = some (.slice B s.arcs.length q) ∧ w'.cell? ⟨blk A', ofs A' + k * 2, none⟩ = some (.int .i64 s.final) ∧ w'.cell? ⟨blk A', ofs A' + k * 2 + 1, none⟩ = some (.slice B' s.arcs.length q') ∧ Below wr.heap.size wr w') (first | (have z : Below wr.heap.size wr wr.drew := (Below.refl _ _).drew; exact ⟨k1.out _ z, k2.out _ z, k3.out _ z, k4.out _ z, k5.out _ z, k6.out _ z, z⟩) | (go_split_ands; have z := Below.step (a := wr) (by assumption) bn; exact ⟨k1.out _ z, k2.out _ z, k3.out _ z, k4.out _ z, k5.out _ z, k6.out _ z, z⟩)) (first | (go_at_call 49; refine (HS.out _ (by go_split_ands; assumption)).mono ?_; rintro e wn ⟨rfl, bn⟩))
        all_goals
          go_wp2_with fail
          go_meet
          case rel => go_split_ands; assumption
      case rest =>
        have bx := bel.trans (hcut.mono (by omega))
        clear hcut bw bel
        go_wp2_with fail
        go_roundw
        case rel => exact ⟨k + 1, by omega, by go_num, bx⟩
        case measure => simp [intOf]; omega
    · go_wp2_with fail
      go_ret
      exact ⟨rfl, bw⟩
end Go.Proofs.YtkmnacchiagipaaDoor
