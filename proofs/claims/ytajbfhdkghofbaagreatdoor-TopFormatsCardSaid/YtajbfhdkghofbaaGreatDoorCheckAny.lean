/- core.Check of any machine: where it answers OK the machine is right. -/
import Derived.Test.YtajbfhdkghofbaaGreatDoorCheck
namespace Go.Proofs.YtajbfhdkghofbaaGreatDoor
open Go.RowKit

theorem cw_no (n : Int) (w : World) (h : ¬ (0 ≤ n ∧ n ≤ 1000000000)) : Calls Tryz.prog 23 #[.int .i64 n] w fun e w' => e = .returned (.bool false) ∧ w = w' := by
  by_cases h1 : 0 ≤ n
  · have i1 : ¬ n ≤ 1000000000 := fun h2 => h ⟨h1, h2⟩
    clear h
    go_enter Tryz.func23, Tryz.ntmps23
    go_wp2
    go_ret
    exact ⟨rfl, rfl⟩
  · clear h
    go_enter Tryz.func23, Tryz.ntmps23
    go_wp2
    go_ret
    exact ⟨rfl, rfl⟩
theorem label_no (n : Int) (w : World) (h : ¬ (0 ≤ n ∧ n ≤ 1000)) : Calls Tryz.prog 40 #[.int .i64 n] w fun e w' => e = .returned (.bool false) ∧ w = w' := by
  by_cases h1 : 0 ≤ n
  · have i1 : ¬ n ≤ 1000 := fun h2 => h ⟨h1, h2⟩
    clear h
    go_enter Tryz.func40, Tryz.ntmps40
    go_wp2
    go_ret
    exact ⟨rfl, rfl⟩
  · clear h
    go_enter Tryz.func40, Tryz.ntmps40
    go_wp2
    go_ret
    exact ⟨rfl, rfl⟩
set_option maxHeartbeats 1000000 in
theorem arc_no (a : ArcL) (n : Int) (w : World) (h : ¬ ValidArc n a) :
    Calls Tryz.prog 26 #[.agg #[.int .i64 a.inn, .int .i64 a.out, .int .i64 a.wt, .int .i64 a.to], .int .i64 n] w fun e w' => e = .returned (.bool false) ∧ Below w.heap.size w w' := by
  have h' : 0 ≤ a.inn ∧ a.inn ≤ 1000 → 0 ≤ a.out ∧ a.out ≤ 1000 → 0 ≤ a.wt ∧ a.wt ≤ 1000000000 → 0 ≤ a.to → ¬ a.to < n := fun h1 h2 h3 h4 h5 => h ⟨h1.1, h1.2, h2.1, h2.2, h3.1, h3.2, h4, h5⟩
  clear h
  generalize a.inn = i at *; generalize a.out = o at *; generalize a.wt = x at *; generalize a.to = t at *
  by_cases c1 : 0 ≤ i ∧ i ≤ 1000
  · have C1 := Lib.hid c1
    by_cases c2 : 0 ≤ o ∧ o ≤ 1000
    · have C2 := Lib.hid c2
      by_cases c3 : 0 ≤ x ∧ x ≤ 1000000000
      · have C3 := Lib.hid c3
        by_cases c4 : 0 ≤ t
        · have c5 := h' c1 c2 c3 c4
          clear h' c1 c2 c3
          go_enter Tryz.func26, Tryz.ntmps26
          go_wp2_with (first | (go_at_call 40; first | ((with_reducible show Calls Tryz.prog 40 #[.int .i64 i] _ _); refine (label_ok i _ C1.out.1 C1.out.2).mono ?_; rintro e w' ⟨rfl, rfl⟩) | ((with_reducible show Calls Tryz.prog 40 #[.int .i64 o] _ _); refine (label_ok o _ C2.out.1 C2.out.2).mono ?_; rintro e w' ⟨rfl, rfl⟩)) | (go_at_call 23; refine (cw_ok _ _ C3.out.1 C3.out.2).mono ?_; rintro e w' ⟨rfl, rfl⟩))
          go_ret
          refine ⟨?_, (by repeat' (first | exact Below.refl _ _ | assumption | refine Below.drew ?_ | refine Below.alloc ?_ (by first | omega | (simp; done) | (simp; omega)) _ | refine Below.setCell ?_ (by first | omega | (simp; done) | (simp; omega)) _))⟩
          show Ending.returned (.bool (decide (t < n))) = _
          rw [decide_eq_false (show ¬ t < n by omega)]
        · clear h' c1 c2 c3
          go_enter Tryz.func26, Tryz.ntmps26
          go_wp2_with (first | (go_at_call 40; first | ((with_reducible show Calls Tryz.prog 40 #[.int .i64 i] _ _); refine (label_ok i _ C1.out.1 C1.out.2).mono ?_; rintro e w' ⟨rfl, rfl⟩) | ((with_reducible show Calls Tryz.prog 40 #[.int .i64 o] _ _); refine (label_ok o _ C2.out.1 C2.out.2).mono ?_; rintro e w' ⟨rfl, rfl⟩)) | (go_at_call 23; refine (cw_ok _ _ C3.out.1 C3.out.2).mono ?_; rintro e w' ⟨rfl, rfl⟩))
          go_ret
          exact ⟨rfl, (by repeat' (first | exact Below.refl _ _ | assumption | refine Below.drew ?_ | refine Below.alloc ?_ (by first | omega | (simp; done) | (simp; omega)) _ | refine Below.setCell ?_ (by first | omega | (simp; done) | (simp; omega)) _))⟩
      · have C3 := Lib.hid c3
        clear h' c1 c2 c3
        go_enter Tryz.func26, Tryz.ntmps26
        go_wp2_with (first | (go_at_call 40; first | ((with_reducible show Calls Tryz.prog 40 #[.int .i64 i] _ _); refine (label_ok i _ C1.out.1 C1.out.2).mono ?_; rintro e w' ⟨rfl, rfl⟩) | ((with_reducible show Calls Tryz.prog 40 #[.int .i64 o] _ _); refine (label_ok o _ C2.out.1 C2.out.2).mono ?_; rintro e w' ⟨rfl, rfl⟩)) | (go_at_call 23; refine (cw_no _ _ C3.out).mono ?_; rintro e w' ⟨rfl, rfl⟩))
        go_ret
        exact ⟨rfl, (by repeat' (first | exact Below.refl _ _ | assumption | refine Below.drew ?_ | refine Below.alloc ?_ (by first | omega | (simp; done) | (simp; omega)) _ | refine Below.setCell ?_ (by first | omega | (simp; done) | (simp; omega)) _))⟩
    · have C2 := Lib.hid c2
      clear h' c1 c2
      go_enter Tryz.func26, Tryz.ntmps26
      go_wp2_with (go_at_call 40; first | ((with_reducible show Calls Tryz.prog 40 #[.int .i64 i] _ _); refine (label_ok i _ C1.out.1 C1.out.2).mono ?_; rintro e w' ⟨rfl, rfl⟩) | ((with_reducible show Calls Tryz.prog 40 #[.int .i64 o] _ _); refine (label_no o _ C2.out).mono ?_; rintro e w' ⟨rfl, rfl⟩))
      go_ret
      exact ⟨rfl, (by repeat' (first | exact Below.refl _ _ | assumption | refine Below.drew ?_ | refine Below.alloc ?_ (by first | omega | (simp; done) | (simp; omega)) _ | refine Below.setCell ?_ (by first | omega | (simp; done) | (simp; omega)) _))⟩
  · have C1 := Lib.hid c1
    clear h' c1
    go_enter Tryz.func26, Tryz.ntmps26
    go_wp2_with (go_at_call 40; refine (label_no i _ C1.out).mono ?_; rintro e w' ⟨rfl, rfl⟩)
    go_ret
    exact ⟨rfl, (by repeat' (first | exact Below.refl _ _ | assumption | refine Below.drew ?_ | refine Below.alloc ?_ (by first | omega | (simp; done) | (simp; omega)) _ | refine Below.setCell ?_ (by first | omega | (simp; done) | (simp; omega)) _))⟩
theorem chk_no (a : ArcL) (n : Int) (b : Nat) (w : World) (h : ¬ ValidArc n a) (hc : w.cell? ⟨b, 0, none⟩ = some (.int .i64 n)) :
    Calls Tryz.prog 25 #[.agg #[.int .i64 a.inn, .int .i64 a.out, .int .i64 a.wt, .int .i64 a.to], .pointer (some ⟨b, 0, none⟩)] w fun e w' => e = .returned (.bool true) ∧ Below w.heap.size w w' := by
  have lb : b < w.heap.size := World.block_lt_of_cell? _ _ hc
  have H := Lib.hid h; clear h
  go_enter Tryz.func25, Tryz.ntmps25
  go_wp2_with fail
  refine (arc_no a n _ H.out).mono ?_; rintro e w1 ⟨rfl, bel⟩; obtain ⟨c1, f1⟩ := bcell bel; have z1 := bel.size; simp at z1; (try have y0 : w.heap.size < w1.heap.size := by omega); (try have y1 : w.heap.size + 1 < w1.heap.size := by omega); (try have y2 : w.heap.size + 1 + 1 < w1.heap.size := by omega); (try have y3 : w.heap.size + 1 + 1 + 1 < w1.heap.size := by omega); (try have y4 : w.heap.size + 1 + 1 + 1 + 1 < w1.heap.size := by omega); (try have y5 : w.heap.size + 1 + 1 + 1 + 1 + 1 < w1.heap.size := by omega); (try have y6 : w.heap.size + 1 + 1 + 1 + 1 + 1 + 1 < w1.heap.size := by omega)
  go_wp2_with fail
  go_ret
  exact ⟨rfl, (by repeat' (first | exact Below.refl _ _ | assumption | refine Below.step ?_ bel | refine Below.drew ?_ | refine Below.alloc ?_ (by first | omega | (simp; done) | (simp; omega)) _ | refine Below.setCell ?_ (by first | omega | (simp; done) | (simp; omega)) _))⟩
set_option maxHeartbeats 1000000 in
theorem index_no (A : Option Addr) (c : Nat) (l : List ArcL) (n : Int) (b : Nat) (w : World) (hA : ArcsAt w A l) (hl : l.length ≤ 1000000) (h : ¬ ∀ a ∈ l, ValidArc n a) (hc : w.cell? ⟨b, 0, none⟩ = some (.int .i64 n)) :
    Calls Tryz.prog 39 #[.slice A l.length c, .func (.func 25) #[] #[.pointer (some ⟨b, 0, none⟩)]] w fun e w' => (∃ k : Nat, k < l.length ∧ e = .returned (.int .i64 k)) ∧ Below w.heap.size w w' := by
  have HA := Lib.hid hA
  have HV := Lib.hid h
  have rd := hA.rdy
  clear hA h
  go_enter Tryz.func39, Tryz.ntmps39
  go_wp2_with fail
  go_loopw [8] (fun i wr => ∃ k : Nat, k ≤ l.length ∧ i = .int .i64 k ∧ Below w.heap.size w wr ∧ Hid (∀ a ∈ l.take k, ValidArc n a)) (fun i _ => l.length - (intOf i).toNat)
  case atStart => exact ⟨0, by omega, rfl, Below.refl _ _, Lib.hid (by simp)⟩
  case round =>
    obtain ⟨k, hk, rfl, bel, HT⟩ := hrel
    by_cases hlt : k < l.length
    · have hAr := HA.out.below bel (Nat.le_refl _)
      have d0 := hAr.c0 k hlt; have d1 := hAr.c1 k hlt; have d2 := hAr.c2 k hlt; have d3 := hAr.c3 k hlt
      have hsn : Hid (ValidArc n l[k] → ∀ a ∈ l.take (k + 1), ValidArc n a) := Lib.hid fun hv a ha => by
        rw [List.take_succ_eq_append_getElem hlt] at ha
        rcases List.mem_append.1 ha with ha | ha
        · exact HT.out a ha
        · simp at ha; subst ha; exact hv
      have hcr : wr.cell? ⟨b, 0, none⟩ = some (.int .i64 n) := cell_keep bel (Nat.le_refl _) hc
      generalize l[k] = a at *
      clear hAr
      by_cases hv : ValidArc n a
      · have HVV := Lib.hid hv
        clear hv
        go_wp2_with (refine (chk_ok a n b _ HVV.out hcr).mono ?_; rintro e w2 ⟨rfl, b2⟩)
        have bel2 := bel.trans (b2.mono bel.size)
        go_roundw
        case rel => exact ⟨k + 1, by omega, by go_num, bel2, Lib.hid (hsn.out HVV.out)⟩
        case measure => simp [intOf]; omega
      · have HVV := Lib.hid hv
        clear hv
        go_wp2_with (refine (chk_no a n b _ HVV.out hcr).mono ?_; rintro e w2 ⟨rfl, b2⟩)
        have bel2 := bel.trans (b2.mono bel.size)
        go_ret
        exact ⟨⟨k, hlt, rfl⟩, bel2⟩
    · obtain rfl : k = l.length := by omega
      exact absurd (by have := HT.out; rwa [List.take_length] at this) HV.out

theorem contains_no (A : Option Addr) (c : Nat) (l : List ArcL) (n : Int) (b : Nat) (w : World) (hA : ArcsAt w A l) (hl : l.length ≤ 1000000) (h : ¬ ∀ a ∈ l, ValidArc n a) (hc : w.cell? ⟨b, 0, none⟩ = some (.int .i64 n)) :
    Calls Tryz.prog 24 #[.slice A l.length c, .func (.func 25) #[] #[.pointer (some ⟨b, 0, none⟩)]] w fun e w' => e = .returned (.bool true) ∧ Below w.heap.size w w' := by
  have I := Lib.hid (index_no A c l n b w hA hl h hc)
  clear hA h
  go_enter Tryz.func24, Tryz.ntmps24
  go_wp2_with fail
  refine I.out.mono ?_; rintro e w2 ⟨⟨k, hk, rfl⟩, b2⟩
  have k0 : (0 : Int) ≤ (k : Int) := by omega
  go_wp2_with fail
  go_ret
  exact ⟨rfl, b2⟩
def NoChk (e : Ending) : Prop := e = .returned (.int .i64 1) ∨ e = .returned (.int .i64 2)
set_option maxRecDepth 100000 in
set_option maxHeartbeats 4000000 in
theorem Check_no (v : Value) (m : MachL) (w : World) (hm : MachAt w v m) (ha : ∀ s ∈ m.states, s.arcs.length ≤ 8796093022208) (hv : ¬ Valid m) :
    Calls Tryz.prog 11 #[v] w fun e w' => NoChk e ∧ Below w.heap.size w w' := by
  obtain ⟨A, c, rfl, hS⟩ := hm
  have hv' : m.states.length ≤ 60 → arcsOf m.states ≤ 400 → -1 ≤ m.start → m.start < m.states.length → ¬ ∀ s ∈ m.states, ValidFinal s.final ∧ ∀ a ∈ s.arcs, ValidArc m.states.length a := fun h1 h2 h3 h4 h5 => hv ⟨h1, h2, h3, h4, h5⟩
  have HS := Lib.hid hS
  have HV := Lib.hid hv'
  have HAL := Lib.hid ha
  have HT := Lib.hid (arcsOf_take m.states)
  have HLE := Lib.hid (arcsOf_le m.states)
  have HB : Hid (∀ k, k ≤ m.states.length → arcsOf (m.states.take k) ≤ k * 8796093022208) := Lib.hid (by
    intro k
    induction k with
    | zero => intro _; simp [arcsOf]
    | succ k ih =>
      intro hk
      have h1 := arcsOf_take m.states k hk
      have h2 := ih (by omega)
      have h3 := ha _ (List.getElem_mem hk)
      omega)
  have rd := hS.rdy
  generalize hss : m.states = ss at *
  generalize m.start = st at *
  clear hS hv hv' ha hss
  by_cases g1 : (60 : Int) < (ss.length : Int)
  · go_enter Tryz.func11, Tryz.ntmps11
    go_wp2_with fail
    go_ret
    exact ⟨.inl rfl, (by repeat' (first | exact Below.refl _ _ | assumption | refine Below.drew ?_ | refine Below.alloc ?_ (by first | omega | (simp; done) | (simp; omega)) _ | refine Below.setCell ?_ (by first | omega | (simp; done) | (simp; omega)) _))⟩
  go_enter Tryz.func11, Tryz.ntmps11
  go_wp2_with fail
  go_loopw [4, 17] (fun arcs i wr => ∃ k : Nat, k ≤ ss.length ∧ i = .int .i64 k ∧ arcs = .int .i64 (arcsOf (ss.take k)) ∧ Below (w.heap.size + 1 + 1) ((w.alloc (.cells #[.int .i64 st, .slice A ss.length c] 27)).alloc (.cells #[.int .i64 ss.length] 3)) wr) (fun _ i _ => ss.length - (intOf i).toNat)
  case atStart => exact ⟨0, by omega, rfl, by simp [arcsOf], Below.refl _ _⟩
  case round =>
    obtain ⟨k, hk, rfl, rfl, bel⟩ := hrel
    have bw : Below w.heap.size w wr := ((by repeat' (first | exact Below.refl _ _ | assumption | refine Below.drew ?_ | refine Below.alloc ?_ (by first | omega | (simp; done) | (simp; omega)) _ | refine Below.setCell ?_ (by first | omega | (simp; done) | (simp; omega)) _)) : Below w.heap.size w _).trans (bel.mono (by omega))
    have hsz := bel.size
    simp at hsz
    obtain ⟨c1, f1⟩ := bcell (show Below ((w.alloc (.cells #[.int .i64 st, .slice A ss.length c] 27)).alloc (.cells #[.int .i64 ss.length] 3)).heap.size _ wr from by simpa using bel)
    have y0 : w.heap.size < wr.heap.size := by omega
    have y1 : w.heap.size + 1 < wr.heap.size := by omega
    by_cases hlt : k < ss.length
    · have hSr := HS.out.below bw (Nat.le_refl _)
      have d0 := hSr.c0 k hlt
      obtain ⟨A', c', d1, -⟩ := hSr.c1 k hlt
      have ht := HT.out k hlt
      have hle := HB.out k hk
      have q2 := HAL.out _ (List.getElem_mem hlt)
      generalize ss[k] = s at *
      have HTT := Lib.hid ht
      have lA : blk A < wr.heap.size := World.block_lt_of_cell? _ _ d0
      have q1 : arcsOf (List.take k ss) ≤ 600000000000000 := by omega
      clear hSr ht hle
      go_wp2_with fail
      go_roundw
      case rel => exact ⟨k + 1, by omega, by go_num, by rw [HTT.out]; go_num, bel.alloc (by omega) _⟩
      case measure => simp [intOf]; omega
    · have hk' : k = ss.length := by omega
      have ht : ss.take k = ss := List.take_of_length_le (by omega)
      have hvv := HV.out (by omega)
      rw [← ht] at hvv
      have HQ : Hid (arcsOf (ss.take k) ≤ 400 → ∀ j (h : j < ss.length), ss[j].arcs.length ≤ 400) := Lib.hid fun h4 j hj => by
        rw [ht] at h4
        have := HT.out j hj; have := HLE.out (j + 1); omega
      by_cases g4 : (400 : Int) < (arcsOf (ss.take k) : Int)
      · clear hvv ht hk' HQ
        go_wp2_with fail
        go_ret
        exact ⟨.inl rfl, bw⟩
      have hv2 := hvv (by omega)
      rw [ht] at hv2
      clear hvv
      by_cases g2 : st < -1
      · clear hv2 ht hk'
        go_wp2_with fail
        go_ret
        exact ⟨.inr rfl, bw⟩
      by_cases g3 : (ss.length : Int) ≤ st
      · clear hv2 ht hk'
        go_wp2_with fail
        go_ret
        exact ⟨.inr rfl, bw⟩
      have HQ4 := Lib.hid (HQ.out (by omega))
      have HVV0 := Lib.hid (hv2 (by omega) (by omega))
      clear hk' ht hv2
      obtain ⟨wo, rfl⟩ : ∃ wo : World, wo = wr := ⟨_, rfl⟩
      have hn : wo.cell? ⟨w.heap.size + 1, 0, none⟩ = some (.int .i64 ss.length) := by simp [go_sem, *]
      have HN := Lib.hid hn
      clear hn
      go_wp2_with fail
      clear c1 f1
      go_loopw [41] (fun i wr => ∃ k : Nat, k ≤ ss.length ∧ i = .int .i64 k ∧ Below wo.heap.size wo wr ∧ Hid (∀ s ∈ ss.take k, ValidFinal s.final ∧ ∀ a ∈ s.arcs, ValidArc ss.length a)) (fun i _ => ss.length - (intOf i).toNat)
      case atStart => exact ⟨0, by omega, rfl, Below.refl _ _, Lib.hid (by simp)⟩
      case round =>
        obtain ⟨j, hj, rfl, b2, HJ⟩ := hrel
        by_cases hlt2 : j < ss.length
        · have hSr := (HS.out.below bw (Nat.le_refl _)).below b2 (Nat.le_refl _)
          have d0 := hSr.c0 j hlt2
          obtain ⟨A', c', d1, hA'⟩ := hSr.c1 j hlt2
          have q2 := HQ4.out j hlt2
          have HSN : Hid ((ValidFinal ss[j].final ∧ ∀ a ∈ ss[j].arcs, ValidArc ss.length a) → ∀ s ∈ ss.take (j + 1), ValidFinal s.final ∧ ∀ a ∈ s.arcs, ValidArc ss.length a) := Lib.hid fun hv a ha => by
            rw [List.take_succ_eq_append_getElem hlt2] at ha
            rcases List.mem_append.1 ha with ha | ha
            · exact HJ.out a ha
            · simp at ha; subst ha; exact hv
          have hnr := cell_keep b2 (Nat.le_refl _) HN.out
          have l1 := World.block_lt_of_cell? _ _ hnr
          generalize ss[j] = s at *
          have lA : blk A < wr.heap.size := World.block_lt_of_cell? _ _ d0
          have HA := Lib.hid hA'
          clear hSr hA'
          simp at l1
          by_cases hfin : ValidFinal s.final
          · have HFIN := Lib.hid hfin
            by_cases hva : ∀ a ∈ s.arcs, ValidArc ss.length a
            · have HVV := Lib.hid hva
              have CT : ∀ W, Below wr.heap.size wr W → Calls Tryz.prog 24 #[.slice A' s.arcs.length c', .func (.func 25) #[] #[.pointer (some ⟨w.heap.size + 1, 0, none⟩)]] W fun e w' => e = .returned (.bool false) ∧ Below W.heap.size W w' := by
                intro W hb
                exact contains_ok A' c' s.arcs ss.length (w.heap.size + 1) W (HA.out.below hb (Nat.le_refl _)) (by omega) HVV.out (cell_keep hb (Nat.le_refl _) hnr)
              have CT' := Lib.hid CT
              clear CT hva
              rcases hfin with ⟨p1, p2⟩ | p3
              · have p3 : (s.final != 1000000001) = true := by rw [bne_iff_ne]; omega
                go_wp2_with (first | (go_at_call 23; refine (cw_ok _ _ (by omega) (by omega)).mono ?_; rintro e w' ⟨rfl, rfl⟩))
                refine (CT'.out _ ((Below.refl _ _).alloc (Nat.le_refl _) _)).mono ?_; rintro e w3 ⟨rfl, b3⟩
                have b4 : Below wo.heap.size wo w3 := (b2.alloc b2.size _).trans (b3.mono (by have := b2.size; simp; omega))
                clear b3
                go_wp2_with fail
                go_roundw
                case rel => exact ⟨j + 1, by omega, by go_num, b4, Lib.hid (HSN.out ⟨HFIN.out, HVV.out⟩)⟩
                case measure => simp [intOf]; omega
              · have P3 := Lib.hid p3
                rw [p3] at d0
                clear p3
                go_wp2_with (first | (go_at_call 23; refine (cw_inf _).mono ?_; rintro e w' ⟨rfl, rfl⟩))
                refine (CT'.out _ ((Below.refl _ _).alloc (Nat.le_refl _) _)).mono ?_; rintro e w3 ⟨rfl, b3⟩
                have b4 : Below wo.heap.size wo w3 := (b2.alloc b2.size _).trans (b3.mono (by have := b2.size; simp; omega))
                clear b3
                go_wp2_with fail
                go_roundw
                case rel => exact ⟨j + 1, by omega, by go_num, b4, Lib.hid (HSN.out ⟨HFIN.out, HVV.out⟩)⟩
                case measure => simp [intOf]; omega
            · have HVV := Lib.hid hva
              have CT : ∀ W, Below wr.heap.size wr W → Calls Tryz.prog 24 #[.slice A' s.arcs.length c', .func (.func 25) #[] #[.pointer (some ⟨w.heap.size + 1, 0, none⟩)]] W fun e w' => e = .returned (.bool true) ∧ Below W.heap.size W w' := by
                intro W hb
                exact contains_no A' c' s.arcs ss.length (w.heap.size + 1) W (HA.out.below hb (Nat.le_refl _)) (by omega) HVV.out (cell_keep hb (Nat.le_refl _) hnr)
              have CT' := Lib.hid CT
              clear CT hva HSN
              rcases hfin with ⟨p1, p2⟩ | p3
              · have p3 : (s.final != 1000000001) = true := by rw [bne_iff_ne]; omega
                go_wp2_with (first | (go_at_call 23; refine (cw_ok _ _ (by omega) (by omega)).mono ?_; rintro e w' ⟨rfl, rfl⟩))
                refine (CT'.out _ ((Below.refl _ _).alloc (Nat.le_refl _) _)).mono ?_; rintro e w3 ⟨rfl, b3⟩
                have b4 : Below wo.heap.size wo w3 := (b2.alloc b2.size _).trans (b3.mono (by have := b2.size; simp; omega))
                clear b3
                go_wp2_with fail
                go_ret
                exact ⟨.inr rfl, bw.trans (b4.mono bw.size)⟩
              · have P3 := Lib.hid p3
                rw [p3] at d0
                clear p3
                go_wp2_with (first | (go_at_call 23; refine (cw_inf _).mono ?_; rintro e w' ⟨rfl, rfl⟩))
                refine (CT'.out _ ((Below.refl _ _).alloc (Nat.le_refl _) _)).mono ?_; rintro e w3 ⟨rfl, b3⟩
                have b4 : Below wo.heap.size wo w3 := (b2.alloc b2.size _).trans (b3.mono (by have := b2.size; simp; omega))
                clear b3
                go_wp2_with fail
                go_ret
                exact ⟨.inr rfl, bw.trans (b4.mono bw.size)⟩
          · have q3 : ¬ (0 ≤ s.final ∧ s.final ≤ 1000000000) := fun h => hfin (.inl h)
            have p3 : (s.final != 1000000001) = true := by rw [bne_iff_ne]; exact fun h => hfin (.inr h)
            have Q3 := Lib.hid q3
            clear hfin q3 HSN
            go_wp2_with (first | (go_at_call 23; refine (cw_no _ _ Q3.out).mono ?_; rintro e w' ⟨rfl, rfl⟩))
            go_ret
            exact ⟨.inr rfl, bw.trans ((b2.alloc b2.size _).mono bw.size)⟩
        · exact absurd (by have := HJ.out; rwa [List.take_of_length_le (by omega)] at this) HVV0.out
end Go.Proofs.YtajbfhdkghofbaaGreatDoor
