/- The walk of SortedKeeps. -/
import Derived.Test.YtlfjccgbngnjhaaArrange
import Derived.Test.YtlfjccgbngnjhaaCountArcs
import Derived.Test.YtlfjccgbngnjhaaBitsWalk
import Derived.Test.YtlfjccgbngnjhaaValid
import Derived.Test.YtlfjccgbngnjhaaAlike
namespace Go.Proofs.Ytlfjccgbngnjhaa
open Go.RowKit

theorem bitsT_sorted (ss : List StateL) (h : ∀ s ∈ ss, sortedL s.arcs = true) (b : BitsL) (hb : b.sorted = true) : (ss.foldl bitsS b).sorted = true := by
  induction ss generalizing b with
  | nil => exact hb
  | cons s ss ih =>
    refine ih (fun x hx => h x (List.mem_cons_of_mem _ hx)) _ ?_
    simp only [bitsS, hb, h s (by simp), Bool.and_self]
theorem arr_sorted (m : MachL) : (bitsOf (arrM (sortK readKy) m).states).sorted = true := by
  unfold bitsOf bitsT
  refine bitsT_sorted _ (fun s hs => ?_) _ rfl
  obtain ⟨s0, _, rfl⟩ := List.mem_map.1 hs
  exact sortedL_true (sorted_sortK _ (sortK_sorted readKy_ok _))
theorem arr_get (f : List ArcL → List ArcL) (m : MachL) (k : Nat) (h : k < m.states.length) (h' : k < (arrM f m).states.length) : (arrM f m).states[k] = ⟨m.states[k].final, f m.states[k].arcs⟩ := by simp [arrM]

theorem drewN_below' (w : World) (n : Nat) : Below w.heap.size w (w.drewN n) := ⟨rfl, rfl, rfl, Nat.le_refl _, fun _ _ => rfl⟩
namespace sortedKeeps
set_option maxRecDepth 100000 in
set_option maxHeartbeats 8000000 in
theorem walk {w : World} (v : Value) (r : RawL) (hr : RawArg w v r) :
    Calls Try.prog 3 #[v] w fun e w' => e = .returned (.bool true) ∧ Below w.heap.size w w' := by
  have hm : Valid (mkMach r 6 false) := valid_made r 6 false (by omega) (by omega)
  have HMD := Lib.hid (fun W hb => made_any v r 6 false W (hr.below hb) (by omega) (by omega))
  obtain ⟨hst, hlen, A, c, rfl, hN⟩ := hr
  generalize mkMach r 6 false = m at *
  have ht : Valid (arrM (sortK readKy) m) := arrM_valid (drops_sort readKy) hm
  have htt := arr_again readKy_ok m
  have hso := arr_sorted m
  have htl := arrM_len (sortK readKy) m
  have hts : (arrM (sortK readKy) m).start = m.start := rfl
  have hget := fun k h h' => arr_get (sortK readKy) m k h h'
  have hml := valid_arcs_le hm
  have hsz := hm.size
  have HV := Lib.hid hm; have HT := Lib.hid ht; have HTT := Lib.hid htt; have HGET := Lib.hid hget; have HML := Lib.hid hml; have HTL := Lib.hid htl; have HTS := Lib.hid hts; have HSO := Lib.hid hso
  clear hN hst hlen hm ht htt htl hts hget hml hso
  go_enter Try.func3, Try.ntmps3
  go_wp2_with fail
  refine (HMD.out _ (by repeat' (first | exact Below.refl _ _ | assumption | refine Below.drew ?_ | refine Below.alloc ?_ (by first | omega | (simp; done) | (simp; omega)) _ | refine Below.setCell ?_ (by first | omega | (simp; done) | (simp; omega)) _))).mono ?_; rintro e w1 ⟨mv, rfl, o1, r1⟩
  obtain ⟨A1, c1, rfl, s1⟩ := own_open o1
  have b1 : Below w.heap.size w w1 := ((Below.refl _ _).alloc (Nat.le_refl _) _).trans (r1.mono (by simp))
  have X1 := Lib.hid (MBox.new (c := c1) s1)
  have b1a := b1.alloc b1.size (.cells #[.int .i64 m.start, .slice A1 m.states.length c1] 27)
  clear o1 r1 HMD s1
  go_wp2_with fail
  refine (Sorted_any _ m _ X1.out.mach HV.out).mono ?_; rintro e w2 ⟨mv2, rfl, o2, r2⟩
  obtain ⟨A2, c2, rfl, s2⟩ := own_open o2
  generalize arrM (sortK readKy) m = t at *
  have b2 : Below w.heap.size w w2 := b1a.trans (r2.mono b1a.size)
  have X2 := Lib.hid ((X1.out.step r2).alloc (.cells #[.int .i64 t.start, .slice A2 t.states.length c2] 27))
  have Y2 := Lib.hid (MBox.new (c := c2) s2)
  have b2a := b2.alloc b2.size (.cells #[.int .i64 t.start, .slice A2 t.states.length c2] 27)
  clear o2 r2 s2 X1 b1a
  go_wp2_with fail
  refine (Bits_any _ t _ Y2.out.mach HT.out).mono ?_; rintro e w3 ⟨rfl, r3⟩
  have b3 : Below w.heap.size w w3 := b2a.trans (r3.mono b2a.size)
  have X3 := Lib.hid (X2.out.step r3)
  have Y3 := Lib.hid (Y2.out.step r3)
  have hb3 := HSO.out
  generalize bitsOf t.states = B at *
  obtain ⟨B0, B1, B2, B3, B4⟩ := B
  simp only at hb3
  subst hb3
  go_upto_region 4 with fail
  have P3 := Lib.hid (Blk.new w3 #[.bool B0, .bool B1, .bool B2, .bool true, .bool B4] 33)
  have b3a := b3.alloc b3.size (.cells #[.bool B0, .bool B1, .bool B2, .bool true, .bool B4] 33)
  replace X3 := Lib.hid (X3.out.alloc (.cells #[.bool B0, .bool B1, .bool B2, .bool true, .bool B4] 33))
  replace Y3 := Lib.hid (Y3.out.alloc (.cells #[.bool B0, .bool B1, .bool B2, .bool true, .bool B4] 33))
  generalize w3.alloc (.cells #[.bool B0, .bool B1, .bool B2, .bool true, .bool B4] 33) = w3a at *
  generalize w3.heap.size = bp at *
  have k3 := Y3.out.blk.cell; have l3 := Y3.out.blk.lt
  clear r3 X2 Y2 b2a
  go_wp2_with fail
  refine (Sorted_any _ t _ Y3.out.mach HT.out).mono ?_; rintro e w4 ⟨mv4, rfl, o4, r4⟩
  rw [HTT.out] at o4
  obtain ⟨A4, c4, rfl, s4⟩ := own_open o4
  have b4 : Below w.heap.size w w4 := b3a.trans (r4.mono b3a.size)
  have BX : Below w4.heap.size w4 (w4.alloc (.cells #[.int .i64 t.start, .slice A4 t.states.length c4] 27)) := (Below.refl _ _).alloc (Nat.le_refl _) _
  have X4 := Lib.hid ((X3.out.step r4).step BX)
  have Y4 := Lib.hid ((Y3.out.step r4).step BX)
  have P4 := Lib.hid ((P3.out.step r4).step BX)
  have Z4 := Lib.hid (MBox.new (c := c4) s4)
  have b4a := b4.trans (BX.mono b4.size)
  clear r4 o4 s4 BX X3 Y3 P3 k3 l3
  have k4 := Y4.out.blk.cell; have l4 := Y4.out.blk.lt; have k4x := X4.out.blk.cell; have l4x := X4.out.blk.lt; have k4p := P4.out.cell; have l4p := P4.out.lt
  go_wp2_with fail
  refine (alike_yes _ _ t _ Y4.out.mach Z4.out.mach HT.out.size (valid_arcs_le HT.out)).mono ?_; rintro e w5 ⟨rfl, r5⟩
  have b5 : Below w.heap.size w w5 := b4a.trans (r5.mono b4a.size)
  have X5 := Lib.hid (X4.out.step r5)
  have Y5 := Lib.hid (Y4.out.step r5)
  have P5 := Lib.hid (P4.out.step r5)
  have htl := HTL.out; have hts := HTS.out
  have k5 := Y5.out.blk.cell; have l5 := Y5.out.blk.lt; have k5x := X5.out.blk.cell; have l5x := X5.out.blk.lt; have k5p := P5.out.cell; have l5p := P5.out.lt
  clear r5 X4 Y4 Z4 P4 k4 l4 k4x l4x k4p l4p b4a
  go_wp2_with fail
  clear k5 l5 k5x l5x k5p l5p
  go_loopw [10] (fun i wr => ∃ k : Nat, k ≤ m.states.length ∧ i = .int .i64 k ∧ Below w5.heap.size w5 wr) (fun i _ => m.states.length - (intOf i).toNat)
  case atStart => exact ⟨0, by omega, rfl, Below.refl _ _⟩
  case round =>
    obtain ⟨k, hk, rfl, bel⟩ := hrel
    obtain ⟨wo, rfl⟩ : ∃ wo : World, wo = wr := ⟨_, rfl⟩
    have bw := b5.trans (bel.mono b5.size)
    have XO := Lib.hid (X5.out.step bel)
    have YO := Lib.hid (Y5.out.step bel)
    have kx0 := XO.out.blk.cell 0; have kx1 := XO.out.blk.cell 1; have ky1 := YO.out.blk.cell 1
    simp at kx0 kx1 ky1
    rw [HTL.out] at ky1
    by_cases hlt : k < m.states.length
    · have hlt' : k < t.states.length := by rw [HTL.out]; exact hlt
      have hg := HGET.out k hlt hlt'
      have d0 := XO.out.at_.c0 k hlt
      obtain ⟨BB, q, d1, hB⟩ := XO.out.at_.c1 k hlt
      have e0 := YO.out.at_.c0 k hlt'
      obtain ⟨B', q', e1, hB'⟩ := YO.out.at_.c1 k hlt'
      rw [hg] at e0 e1 hB'
      simp only at e0 e1 hB'
      rw [sortK_len] at e1
      have hll := HML.out m.states[k] (List.getElem_mem hlt)
      have rA1 := XO.out.at_.rdy; have rA2 := YO.out.at_.rdy
      rw [HTL.out] at rA2
      generalize m.states[k] = s at *
      have HB := Lib.hid hB; have HB' := Lib.hid hB'
      have rB := hB.rdy
      clear hg hB hB'
      have i0 : (0 : Int) ≤ ↑k := by omega
      have i1 : (↑k : Int) < ↑m.states.length := by omega
      generalize hl : s.arcs = l at *
      generalize s.final = fin at *
      generalize hn : l.length = n at *
      have HN := Lib.hid hn
      have hlr : (sortK readKy l).length = n := by rw [sortK_len]; exact hn
      have HLR := Lib.hid hlr
      clear hn hlr
      go_wp2_with fail
      go_quiet (fail)
      go_wp2_with fail
      have bq : Below wo.heap.size wo (wo.drewN nq) := drewN_below' wo nq
      generalize wo.drewN nq = wq at *
      go_loopw [12] (fun i wr => ∃ j : Nat, j ≤ n ∧ i = .int .i64 j ∧ Below wo.heap.size wo wr) (fun i _ => n - (intOf i).toNat)
      case atStart => exact ⟨0, by omega, rfl, bq⟩
      case round =>
        obtain ⟨j, hj, rfl, bi⟩ := hrel
        obtain ⟨wi, rfl⟩ : ∃ wi : World, wi = wr := ⟨_, rfl⟩
        have g1 := cellB bi kx1; have g2 := cellB bi ky1; have g3 := cellB bi e1
        by_cases hj2 : j < n
        · have hr := HB.out.below bi (Nat.le_refl _)
          have hjl : j < l.length := by rw [HN.out]; exact hj2
          have a0 := hr.c0 j hjl; have a1 := hr.c1 j hjl; have a2 := hr.c2 j hjl; have a3 := hr.c3 j hjl
          have HC1 := Lib.hid (fun W (hw : Below wi.heap.size wi W) => count_any BB q l l[j] W (hr.below hw (Nat.le_refl _)) (by rw [HN.out]; exact hll))
          have HC2 := Lib.hid (fun W (hw : Below wi.heap.size wi W) => count_any B' q' (sortK readKy l) l[j] W ((HB'.out.below bi (Nat.le_refl _)).below hw (Nat.le_refl _)) (by rw [HLR.out]; exact hll))
          rw [HN.out] at HC1
          rw [HLR.out, (sortK_perm readKy l).count_eq] at HC2
          generalize l.count l[j] = cn at *
          generalize l[j] = x at *
          clear hr
          have KS : Hid (∀ W, Below wi.heap.size wi W → W.cell? ⟨w2.heap.size, 1, none⟩ = some (.slice A2 m.states.length c2) ∧ W.cell? ⟨blk A2, ofs A2 + k * 2 + 1, none⟩ = some (.slice B' n q') ∧ W.cell? ⟨blk BB, ofs BB + j * 4, none⟩ = some (.int .i64 x.inn) ∧ W.cell? ⟨blk BB, ofs BB + j * 4 + 1, none⟩ = some (.int .i64 x.out) ∧ W.cell? ⟨blk BB, ofs BB + j * 4 + 2, none⟩ = some (.int .i64 x.wt) ∧ W.cell? ⟨blk BB, ofs BB + j * 4 + 3, none⟩ = some (.int .i64 x.to) ∧ Below wi.heap.size wi W) := Lib.hid fun W hw => ⟨cellB hw g2, cellB hw g3, cellB hw a0, cellB hw a1, cellB hw a2, cellB hw a3, hw⟩
          have j0 : (0 : Int) ≤ ↑j := by omega
          have j1 : (↑j : Int) < ↑n := by omega
          go_wp2_with fail
          go_region_held3 (fun W => W.cell? ⟨w2.heap.size, 1, none⟩ = some (.slice A2 m.states.length c2) ∧ W.cell? ⟨blk A2, ofs A2 + k * 2 + 1, none⟩ = some (.slice B' n q') ∧ W.cell? ⟨blk BB, ofs BB + j * 4, none⟩ = some (.int .i64 x.inn) ∧ W.cell? ⟨blk BB, ofs BB + j * 4 + 1, none⟩ = some (.int .i64 x.out) ∧ W.cell? ⟨blk BB, ofs BB + j * 4 + 2, none⟩ = some (.int .i64 x.wt) ∧ W.cell? ⟨blk BB, ofs BB + j * 4 + 3, none⟩ = some (.int .i64 x.to) ∧ Below wi.heap.size wi W) (first | exact KS.out _ ((Below.refl _ _).drew) | (go_split_ands; exact KS.out _ (Below.step (a := wi) (by first | exact (Below.refl _ _).drew | assumption) b3)))
            (first | (go_at_call 12; (with_reducible show Calls _ _ #[.slice BB n q, _] _ _); refine (HC1.out _ (by first | exact (Below.refl _ _).drew | (go_split_ands; assumption))).mono ?_; rintro e w' ⟨rfl, b3⟩) | (go_at_call 12; (with_reducible show Calls _ _ #[.slice B' n q', _] _ _); refine (HC2.out _ (by first | exact (Below.refl _ _).drew | (go_split_ands; assumption))).mono ?_; rintro e w' ⟨rfl, b3⟩))
          all_goals
            have BX : Below wi.heap.size wi w' := by go_split_ands; assumption
            have bz := bi.trans (BX.mono bi.size)
            clear BX
            go_wp2_with fail
            go_roundw
            case rel => exact ⟨j + 1, by omega, by go_num, bz⟩
            case measure => simp [intOf]; omega
        · have j1 : ¬ (↑j : Int) < ↑n := by omega
          go_wp2_with fail
          go_roundw
          case rel => exact ⟨k + 1, by omega, by go_num, bel.trans (bi.mono bel.size)⟩
          case measure => simp [intOf]; omega
    · have i1 : ¬ (↑k : Int) < ↑m.states.length := by omega
      go_wp2_with fail
      go_ret
      exact ⟨rfl, bw⟩
end sortedKeeps
end Go.Proofs.Ytlfjccgbngnjhaa
