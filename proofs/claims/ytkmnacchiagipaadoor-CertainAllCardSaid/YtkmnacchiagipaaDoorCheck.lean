/- core.Check answers OK where a machine is right. -/
import Derived.Test.YtkmnacchiagipaaDoorMem
import Derived.Test.YtkmnacchiagipaaDoorPick
import Derived.LoopTactic
import Derived.Deep.LoopGhost
import Derived.Deep.DeepCutAuto
import Derived.Deep.CutBlock
import Derived.Deep.RegionHeld3
namespace Go.Proofs.YtkmnacchiagipaaDoor
open Go.RowKit

structure ValidArc (n : Int) (a : ArcL) : Prop where
  i0 : 0 ≤ a.inn
  i1 : a.inn ≤ 1000
  o0 : 0 ≤ a.out
  o1 : a.out ≤ 1000
  w0 : 0 ≤ a.wt
  w1 : a.wt ≤ 1000000000
  t0 : 0 ≤ a.to
  t1 : a.to < n
def ValidFinal (f : Int) : Prop := (0 ≤ f ∧ f ≤ 1000000000) ∨ f = 1000000001
def arcsOf (ss : List StateL) : Nat := (ss.map (fun s => s.arcs.length)).sum
structure Valid (m : MachL) : Prop where
  size : m.states.length ≤ 60
  arcs : arcsOf m.states ≤ 400
  s0 : -1 ≤ m.start
  s1 : m.start < m.states.length
  st : ∀ s ∈ m.states, ValidFinal s.final ∧ ∀ a ∈ s.arcs, ValidArc m.states.length a

theorem cw_ok (n : Int) (w : World) (h1 : 0 ≤ n) (h2 : n ≤ 1000000000) : Calls Tryd.prog 44 #[.int .i64 n] w fun e w' => e = .returned (.bool true) ∧ w = w' := by
  go_enter Tryd.func44, Tryd.ntmps44
  go_wp2
  go_ret
  exact ⟨rfl, rfl⟩
theorem cw_inf (w : World) : Calls Tryd.prog 44 #[.int .i64 1000000001] w fun e w' => e = .returned (.bool false) ∧ w = w' := by
  go_enter Tryd.func44, Tryd.ntmps44
  go_wp2
  go_ret
  exact ⟨rfl, rfl⟩
theorem label_ok (n : Int) (w : World) (h1 : 0 ≤ n) (h2 : n ≤ 1000) : Calls Tryd.prog 86 #[.int .i64 n] w fun e w' => e = .returned (.bool true) ∧ w = w' := by
  go_enter Tryd.func86, Tryd.ntmps86
  go_wp2
  go_ret
  exact ⟨rfl, rfl⟩

theorem arc_ok (a : ArcL) (n : Int) (w : World) (h : ValidArc n a) :
    Calls Tryd.prog 47 #[.agg #[.int .i64 a.inn, .int .i64 a.out, .int .i64 a.wt, .int .i64 a.to], .int .i64 n] w fun e w' => e = .returned (.bool true) ∧ Below w.heap.size w w' := by
  obtain ⟨i0, i1, o0, o1, w0, w1, t0, t1⟩ := h
  go_enter Tryd.func47, Tryd.ntmps47
  go_wp2_with (first | (go_at_call 86; refine (label_ok _ _ (by omega) (by omega)).mono ?_; rintro e w' ⟨rfl, rfl⟩) | (go_at_call 44; refine (cw_ok _ _ (by omega) (by omega)).mono ?_; rintro e w' ⟨rfl, rfl⟩))
  go_ret
  exact ⟨rfl, (by repeat' (first | exact Below.refl _ _ | assumption | refine Below.drew ?_ | refine Below.alloc ?_ (by first | omega | (simp; done) | (simp; omega)) _ | refine Below.setCell ?_ (by first | omega | (simp; done) | (simp; omega)) _))⟩

theorem chk_ok (a : ArcL) (n : Int) (b : Nat) (w : World) (h : ValidArc n a) (hc : w.cell? ⟨b, 0, none⟩ = some (.int .i64 n)) :
    Calls Tryd.prog 46 #[.agg #[.int .i64 a.inn, .int .i64 a.out, .int .i64 a.wt, .int .i64 a.to], .pointer (some ⟨b, 0, none⟩)] w fun e w' => e = .returned (.bool false) ∧ Below w.heap.size w w' := by
  have lb : b < w.heap.size := World.block_lt_of_cell? _ _ hc
  go_enter Tryd.func46, Tryd.ntmps46
  go_wp2_with fail
  refine (arc_ok a n _ h).mono ?_; rintro e w1 ⟨rfl, bel⟩; obtain ⟨c1, f1⟩ := bcell bel; have z1 := bel.size; simp at z1; (try have y0 : w.heap.size < w1.heap.size := by omega); (try have y1 : w.heap.size + 1 < w1.heap.size := by omega); (try have y2 : w.heap.size + 1 + 1 < w1.heap.size := by omega); (try have y3 : w.heap.size + 1 + 1 + 1 < w1.heap.size := by omega); (try have y4 : w.heap.size + 1 + 1 + 1 + 1 < w1.heap.size := by omega); (try have y5 : w.heap.size + 1 + 1 + 1 + 1 + 1 < w1.heap.size := by omega); (try have y6 : w.heap.size + 1 + 1 + 1 + 1 + 1 + 1 < w1.heap.size := by omega)
  go_wp2_with fail
  go_ret
  exact ⟨rfl, (by repeat' (first | exact Below.refl _ _ | assumption | refine Below.step ?_ bel | refine Below.drew ?_ | refine Below.alloc ?_ (by first | omega | (simp; done) | (simp; omega)) _ | refine Below.setCell ?_ (by first | omega | (simp; done) | (simp; omega)) _))⟩

set_option maxHeartbeats 1000000 in
theorem index_ok (A : Option Addr) (c : Nat) (l : List ArcL) (n : Int) (b : Nat) (w : World) (hA : ArcsAt w A l) (hl : l.length ≤ 1000000) (h : ∀ a ∈ l, ValidArc n a) (hc : w.cell? ⟨b, 0, none⟩ = some (.int .i64 n)) :
    Calls Tryd.prog 85 #[.slice A l.length c, .func (.func 46) #[] #[.pointer (some ⟨b, 0, none⟩)]] w fun e w' => e = .returned (.int .i64 (-1)) ∧ Below w.heap.size w w' := by
  have HA := Lib.hid hA
  have HV := Lib.hid h
  have rd := hA.rdy
  clear hA h
  go_enter Tryd.func85, Tryd.ntmps85
  go_wp2_with fail
  go_loopw [8] (fun i wr => ∃ k : Nat, k ≤ l.length ∧ i = .int .i64 k ∧ Below w.heap.size w wr) (fun i _ => l.length - (intOf i).toNat)
  case atStart => exact ⟨0, by omega, rfl, Below.refl _ _⟩
  case round =>
    obtain ⟨k, hk, rfl, bel⟩ := hrel
    by_cases hlt : k < l.length
    · have hAr := HA.out.below bel (Nat.le_refl _)
      have d0 := hAr.c0 k hlt; have d1 := hAr.c1 k hlt; have d2 := hAr.c2 k hlt; have d3 := hAr.c3 k hlt
      have hv := HV.out l[k] (List.getElem_mem hlt)
      have hcr : wr.cell? ⟨b, 0, none⟩ = some (.int .i64 n) := cell_keep bel (Nat.le_refl _) hc
      generalize l[k] = a at *
      have HVV := Lib.hid hv
      clear hAr hv
      go_wp2_with (refine (chk_ok a n b _ HVV.out hcr).mono ?_; rintro e w2 ⟨rfl, b2⟩)
      have bel2 := bel.trans (b2.mono bel.size)
      go_roundw
      case rel => exact ⟨k + 1, by omega, by go_num, bel2⟩
      case measure => simp [intOf]; omega
    · go_wp2_with fail
      go_ret
      exact ⟨rfl, bel⟩

theorem contains_ok (A : Option Addr) (c : Nat) (l : List ArcL) (n : Int) (b : Nat) (w : World) (hA : ArcsAt w A l) (hl : l.length ≤ 1000000) (h : ∀ a ∈ l, ValidArc n a) (hc : w.cell? ⟨b, 0, none⟩ = some (.int .i64 n)) :
    Calls Tryd.prog 45 #[.slice A l.length c, .func (.func 46) #[] #[.pointer (some ⟨b, 0, none⟩)]] w fun e w' => e = .returned (.bool false) ∧ Below w.heap.size w w' := by
  have I := Lib.hid (index_ok A c l n b w hA hl h hc)
  clear hA h
  go_enter Tryd.func45, Tryd.ntmps45
  go_wp2_with fail
  refine I.out.mono ?_; rintro e w2 ⟨rfl, b2⟩
  go_wp2_with fail
  go_ret
  exact ⟨rfl, b2⟩

theorem arcsOf_take (ss : List StateL) (k : Nat) (h : k < ss.length) : arcsOf (ss.take (k + 1)) = arcsOf (ss.take k) + ss[k].arcs.length := by
  unfold arcsOf; rw [List.take_succ_eq_append_getElem h, List.map_append, List.sum_append]; simp
theorem arcsOf_le (ss : List StateL) (k : Nat) : arcsOf (ss.take k) ≤ arcsOf ss := by
  unfold arcsOf
  conv => rhs; rw [← List.take_append_drop k ss, List.map_append, List.sum_append]
  omega

set_option maxRecDepth 100000 in
set_option maxHeartbeats 2000000 in
theorem Check_ok (v : Value) (m : MachL) (w : World) (hm : MachAt w v m) (hv : Valid m) :
    Calls Tryd.prog 18 #[v] w fun e w' => e = .returned (.int .i64 0) ∧ Below w.heap.size w w' := by
  obtain ⟨A, c, rfl, hS⟩ := hm
  obtain ⟨v1, v2, v3, v4, v5⟩ := hv
  have HS := Lib.hid hS
  have HV := Lib.hid v5
  have HT := Lib.hid (arcsOf_take m.states)
  have HL := Lib.hid (arcsOf_le m.states)
  have rd := hS.rdy
  generalize hss : m.states = ss at *
  generalize m.start = st at *
  clear hS v5 hss
  have g1 : ¬ (60 : Int) < (ss.length : Int) := by omega
  have g2 : ¬ st < -1 := by omega
  have g3 : ¬ (ss.length : Int) ≤ st := by omega
  go_enter Tryd.func18, Tryd.ntmps18
  go_wp2_with fail
  go_loopw [4, 17] (fun arcs i wr => ∃ k : Nat, k ≤ ss.length ∧ i = .int .i64 k ∧ arcs = .int .i64 (arcsOf (ss.take k)) ∧ Below (w.heap.size + 1 + 1) ((w.alloc (.cells #[.int .i64 st, .slice A ss.length c] 41)).alloc (.cells #[.int .i64 ss.length] 3)) wr) (fun _ i _ => ss.length - (intOf i).toNat)
  case atStart => exact ⟨0, by omega, rfl, by simp [arcsOf], Below.refl _ _⟩
  case round =>
    obtain ⟨k, hk, rfl, rfl, bel⟩ := hrel
    have bw : Below w.heap.size w wr := ((by repeat' (first | exact Below.refl _ _ | assumption | refine Below.drew ?_ | refine Below.alloc ?_ (by first | omega | (simp; done) | (simp; omega)) _ | refine Below.setCell ?_ (by first | omega | (simp; done) | (simp; omega)) _)) : Below w.heap.size w _).trans (bel.mono (by omega))
    have hsz := bel.size
    simp at hsz
    obtain ⟨c1, f1⟩ := bcell (show Below ((w.alloc (.cells #[.int .i64 st, .slice A ss.length c] 41)).alloc (.cells #[.int .i64 ss.length] 3)).heap.size _ wr from by simpa using bel)
    have y0 : w.heap.size < wr.heap.size := by omega
    have y1 : w.heap.size + 1 < wr.heap.size := by omega
    by_cases hlt : k < ss.length
    · have hSr := HS.out.below bw (Nat.le_refl _)
      have d0 := hSr.c0 k hlt
      obtain ⟨A', c', d1, -⟩ := hSr.c1 k hlt
      have ht := HT.out k hlt
      have hle := HL.out (k + 1)
      have hle2 := HL.out k
      generalize ss[k] = s at *
      have HTT := Lib.hid ht
      have lA : blk A < wr.heap.size := World.block_lt_of_cell? _ _ d0
      have q1 : arcsOf (List.take k ss) ≤ 400 := by omega
      have q2 : s.arcs.length ≤ 400 := by omega
      clear hSr ht hle hle2
      go_wp2_with fail
      go_roundw
      case rel => exact ⟨k + 1, by omega, by go_num, by rw [HTT.out]; go_num, bel.alloc (by omega) _⟩
      case measure => simp [intOf]; omega
    · have hk' : k = ss.length := by omega
      have ht : ss.take k = ss := List.take_of_length_le (by omega)
      have g4 : ¬ (400 : Int) < (arcsOf (ss.take k) : Int) := by rw [ht]; omega
      clear hk' ht
      obtain ⟨wo, rfl⟩ : ∃ wo : World, wo = wr := ⟨_, rfl⟩
      have hn : wo.cell? ⟨w.heap.size + 1, 0, none⟩ = some (.int .i64 ss.length) := by simp [go_sem, *]
      have HN := Lib.hid hn
      clear hn
      go_wp2_with fail
      clear c1 f1
      go_loopw [41] (fun i wr => ∃ k : Nat, k ≤ ss.length ∧ i = .int .i64 k ∧ Below wo.heap.size wo wr) (fun i _ => ss.length - (intOf i).toNat)
      case atStart => exact ⟨0, by omega, rfl, Below.refl _ _⟩
      case round =>
        obtain ⟨j, hj, rfl, b2⟩ := hrel
        by_cases hlt2 : j < ss.length
        · have hSr := (HS.out.below bw (Nat.le_refl _)).below b2 (Nat.le_refl _)
          have d0 := hSr.c0 j hlt2
          obtain ⟨A', c', d1, hA'⟩ := hSr.c1 j hlt2
          have hv := HV.out ss[j] (List.getElem_mem hlt2)
          have ht := HT.out j hlt2
          have hle := HL.out (j + 1)
          have hnr := cell_keep b2 (Nat.le_refl _) HN.out
          have l1 := World.block_lt_of_cell? _ _ hnr
          generalize ss[j] = s at *
          have lA : blk A < wr.heap.size := World.block_lt_of_cell? _ _ d0
          have q2 : s.arcs.length ≤ 400 := by omega
          have HVV := Lib.hid hv.2
          have HA := Lib.hid hA'
          have hfin := hv.1
          clear hSr ht hle hv hA'
          simp at l1
          have CT : ∀ W, Below wr.heap.size wr W → Calls Tryd.prog 45 #[.slice A' s.arcs.length c', .func (.func 46) #[] #[.pointer (some ⟨w.heap.size + 1, 0, none⟩)]] W fun e w' => e = .returned (.bool false) ∧ Below W.heap.size W w' := by
            intro W hb
            exact contains_ok A' c' s.arcs ss.length (w.heap.size + 1) W (HA.out.below hb (Nat.le_refl _)) (by omega) HVV.out (cell_keep hb (Nat.le_refl _) hnr)
          have CT' := Lib.hid CT
          clear CT
          rcases hfin with ⟨p1, p2⟩ | p3
          · have p3 : (s.final != 1000000001) = true := by rw [bne_iff_ne]; omega
            go_wp2_with (first | (go_at_call 44; refine (cw_ok _ _ (by omega) (by omega)).mono ?_; rintro e w' ⟨rfl, rfl⟩))
            refine (CT'.out _ ((Below.refl _ _).alloc (Nat.le_refl _) _)).mono ?_; rintro e w3 ⟨rfl, b3⟩
            have b4 : Below wo.heap.size wo w3 := (b2.alloc b2.size _).trans (b3.mono (by have := b2.size; simp; omega))
            clear b3
            go_wp2_with fail
            go_roundw
            case rel => exact ⟨j + 1, by omega, by go_num, b4⟩
            case measure => simp [intOf]; omega
          · have P3 := Lib.hid p3
            rw [p3] at d0
            clear p3
            go_wp2_with (first | (go_at_call 44; refine (cw_inf _).mono ?_; rintro e w' ⟨rfl, rfl⟩))
            refine (CT'.out _ ((Below.refl _ _).alloc (Nat.le_refl _) _)).mono ?_; rintro e w3 ⟨rfl, b3⟩
            have b4 : Below wo.heap.size wo w3 := (b2.alloc b2.size _).trans (b3.mono (by have := b2.size; simp; omega))
            clear b3
            go_wp2_with fail
            go_roundw
            case rel => exact ⟨j + 1, by omega, by go_num, b4⟩
            case measure => simp [intOf]; omega
        · go_wp2_with fail
          go_ret
          exact ⟨rfl, bw.trans (b2.mono bw.size)⟩
end Go.Proofs.YtkmnacchiagipaaDoor
