/- tropicakeep.Step: a step of raw numbers. -/
import Derived.Test.YtkmnacchiagipaaDoorScriptTodo
import Derived.Deep.CutBlock
import Derived.IntWalk
namespace Go.Proofs.YtkmnacchiagipaaDoor
open Go.RowKit

set_option maxRecDepth 100000 in
set_option maxHeartbeats 8000000 in
theorem step_todo (t : TodoL) (w : World) (h : TodoOk t) : Calls Tryd.prog 21 #[.agg #[.int .i64 t.kind, .int .i64 t.dest, .int .i64 t.a, .int .i64 t.b, .int .i64 t.name]] w fun e w' => e = .returned (.agg (stepC (stepT t.kind t.dest t.a t.b t.name)).toArray) ∧ Below w.heap.size w w' := by
  obtain ⟨k, d, a, b, n⟩ := t
  obtain ⟨⟨k0, k1⟩, ⟨d0, d1⟩, ⟨a0, a1⟩, ⟨b0, b1⟩, hn⟩ := h
  simp only at k0 k1 d0 d1 a0 a1 b0 b1 hn ⊢
  have P1 := Lib.hid (fun W => picked_any k 15 W k0 k1 (by omega) (by omega))
  have P2 := Lib.hid (fun W => picked_any d 26 W d0 d1 (by omega) (by omega))
  have P3 := Lib.hid (fun W => picked_any a 26 W a0 a1 (by omega) (by omega))
  have P4 := Lib.hid (fun W => picked_any b 26 W b0 b1 (by omega) (by omega))
  have NM := Lib.hid (fun W => nameT_any n W hn)
  have hk := pick_range k 15 (by omega)
  have hst : stepT k d a b n = if 1 + pick k 15 = 1 then ⟨1, pick d 26, 0, 0, nmT n⟩ else if 1 + pick k 15 = 15 then ⟨15, 0, pick a 26, 0, nmT n⟩ else if 1 + pick k 15 = 2 ∨ 1 + pick k 15 = 3 ∨ 1 + pick k 15 = 9 then ⟨1 + pick k 15, pick d 26, pick a 26, pick b 26, []⟩ else ⟨1 + pick k 15, pick d 26, pick a 26, 0, []⟩ := rfl
  rw [hst]
  clear hst k0 k1 d0 d1 a0 a1 b0 b1 hn
  generalize pick k 15 = pk at *
  generalize pick d 26 = pd at *
  generalize pick a 26 = pa at *
  generalize pick b 26 = pb at *
  generalize nmT n = nm at *
  have w0 : IntKind.i64.wrap (1 + pk) = 1 + pk := IntWalk.i64_in _ (by omega)
  generalize hE : stepC (if 1 + pk = 1 then (⟨1, pd, 0, 0, nm⟩ : StepL) else if 1 + pk = 15 then ⟨15, 0, pa, 0, nm⟩ else if 1 + pk = 2 ∨ 1 + pk = 3 ∨ 1 + pk = 9 then ⟨1 + pk, pd, pa, pb, []⟩ else ⟨1 + pk, pd, pa, 0, []⟩) = ev
  have HE := Lib.hid hE
  clear hE
  go_enter Tryd.func21, Tryd.ntmps21
  go_wp2_with fail
  have B1 : Below w.heap.size w ((w.alloc (.cells #[.int .i64 k, .int .i64 d, .int .i64 a, .int .i64 b, .int .i64 n] 54)).alloc (.cells #[.int .i64 0, .int .i64 0, .int .i64 0, .int .i64 0, .string ⟨#[]⟩] 51)) := (by repeat' (first | exact Below.refl _ _ | assumption | refine Below.drew ?_ | refine Below.alloc ?_ (by first | omega | (simp; done) | (simp; omega)) _ | refine Below.setCell ?_ (by first | omega | (simp; done) | (simp; omega)) _))
  have T0 : Blk ((w.alloc (.cells #[.int .i64 k, .int .i64 d, .int .i64 a, .int .i64 b, .int .i64 n] 54)).alloc (.cells #[.int .i64 0, .int .i64 0, .int .i64 0, .int .i64 0, .string ⟨#[]⟩] 51)) w.heap.size #[.int .i64 k, .int .i64 d, .int .i64 a, .int .i64 b, .int .i64 n] 54 := (Blk.new _ _ _).alloc _
  have R0 : Blk ((w.alloc (.cells #[.int .i64 k, .int .i64 d, .int .i64 a, .int .i64 b, .int .i64 n] 54)).alloc (.cells #[.int .i64 0, .int .i64 0, .int .i64 0, .int .i64 0, .string ⟨#[]⟩] 51)) (w.heap.size + 1) #[.int .i64 0, .int .i64 0, .int .i64 0, .int .i64 0, .string ⟨#[]⟩] 51 := Blk.new' (by simp)
  have hz2 : ((w.alloc (.cells #[.int .i64 k, .int .i64 d, .int .i64 a, .int .i64 b, .int .i64 n] 54)).alloc (.cells #[.int .i64 0, .int .i64 0, .int .i64 0, .int .i64 0, .string ⟨#[]⟩] 51)).heap.size = w.heap.size + 2 := by simp
  generalize (w.alloc (.cells #[.int .i64 k, .int .i64 d, .int .i64 a, .int .i64 b, .int .i64 n] 54)).alloc (.cells #[.int .i64 0, .int .i64 0, .int .i64 0, .int .i64 0, .string ⟨#[]⟩] 51) = w2 at *
  have q0 := T0.cell 0; have q1 := T0.cell 1; have q2 := T0.cell 2
  simp only [List.getElem?_toArray, List.getElem?_cons_succ, List.getElem?_cons_zero] at q0 q1 q2
  have KS : Hid (∀ W, Below w2.heap.size w2 W → W.cell? ⟨w.heap.size, 0, none⟩ = some (.int .i64 k) ∧ W.cell? ⟨w.heap.size, 1, none⟩ = some (.int .i64 d) ∧ W.cell? ⟨w.heap.size, 2, none⟩ = some (.int .i64 a) ∧ Below w2.heap.size w2 W) := Lib.hid fun W hb => ⟨cell_keep hb (Nat.le_refl _) q0, cell_keep hb (Nat.le_refl _) q1, cell_keep hb (Nat.le_refl _) q2, hb⟩
  have HB1 := Lib.hid B1; have HT0 := Lib.hid T0; have HR0 := Lib.hid R0
  clear B1 T0 R0 q0 q1 q2
  go_cut [3] (fun p wx => ∃ g, p = .pointer (some ⟨g, 0, none⟩) ∧ Blk wx g #[.int .i64 (1 + pk), .int .i64 pd, .int .i64 pa, .int .i64 0, .string ⟨#[]⟩] 51 ∧ Below w2.heap.size w2 wx ∧ w2.heap.size ≤ g)
  case first =>
    go_region_held3 (fun w' => w'.cell? ⟨w.heap.size, 0, none⟩ = some (.int .i64 k) ∧ w'.cell? ⟨w.heap.size, 1, none⟩ = some (.int .i64 d) ∧ w'.cell? ⟨w.heap.size, 2, none⟩ = some (.int .i64 a) ∧ Below w2.heap.size w2 w') (first | exact KS.out _ (Below.refl _ _).drew | (go_split_ands; exact KS.out _ (by repeat' (first | assumption | exact Below.refl _ _ | refine Below.drew ?_ | refine Below.alloc ?_ (by first | exact Nat.le_refl _ | (simp; done)) _)))) (first | (go_at_call 10; (with_reducible show Calls _ _ #[.int .i64 k, .int .i64 15] _ _); refine (P1.out _).mono ?_; rintro e w' ⟨rfl, rfl⟩) | (go_at_call 10; (with_reducible show Calls _ _ #[.int .i64 d, .int .i64 26] _ _); refine (P2.out _).mono ?_; rintro e w' ⟨rfl, rfl⟩) | (go_at_call 10; (with_reducible show Calls _ _ #[.int .i64 a, .int .i64 26] _ _); refine (P3.out _).mono ?_; rintro e w' ⟨rfl, rfl⟩))
    all_goals
      go_wp2_with fail
      go_meet
      case rel =>
        first
        | exact ⟨w.heap.size + 2, rfl, by first | exact Blk.new' hz2.symm | exact (Blk.new' hz2.symm).drew, by go_split_ands; assumption, by omega⟩
        | exact ⟨w.heap.size + 2, rfl, by first | exact Blk.new' hz2.symm | exact (Blk.new' hz2.symm).drew | exact Blk.new' (w := w2.drew) hz2.symm, by repeat' (first | assumption | exact Below.refl _ _ | refine Below.drew ?_ | refine Below.alloc ?_ (by first | exact Nat.le_refl _ | (simp; done)) _), by omega⟩
        | trace_state
  case rest =>
    obtain ⟨g, rfl, hX, bel, hg⟩ := hcut
    obtain ⟨w1, rfl⟩ : ∃ wx : World, wx = wc := ⟨_, rfl⟩
    have hT := HT0.out.step bel; have hR := HR0.out.step bel
    have HX := Lib.hid hX; have HT := Lib.hid hT; have HR := Lib.hid hR
    have hbw := HB1.out.trans (bel.mono HB1.out.size)
    have HB := Lib.hid hbw
    have x0 := hX.cell 0; have x1 := hX.cell 1; have x2 := hX.cell 2; have x3 := hX.cell 3; have x4 := hX.cell 4; have xf := hX.froz; have xl := hX.lt
    have t3 := hT.cell 3; have t4 := hT.cell 4; have tl := hT.lt
    have r0 := hR.cell 0; have r1 := hR.cell 1; have r2 := hR.cell 2; have r3 := hR.cell 3; have r4 := hR.cell 4; have rf := hR.froz; have rl := hR.lt
    simp only [List.getElem?_toArray, List.getElem?_cons_succ, List.getElem?_cons_zero] at x0 x1 x2 x3 x4 t3 t4 r0 r1 r2 r3 r4
    have hne : w.heap.size + 1 ≠ g := by omega
    have hne2 : g ≠ w.heap.size + 1 := by omega
    have hgw : w.heap.size ≤ g := by omega
    clear P1 P2 P3 w0 hX hT hR bel hbw KS
    obtain ⟨K, hK⟩ : ∃ K : Int, 1 + pk = K := ⟨_, rfl⟩
    rw [hK] at x0 HX HE
    have HBE := Lib.hid (fun (W : World) (h : Below w.heap.size w W) u0 u1 u2 u3 u4 => (((((h.setCell (p := ⟨w.heap.size + 1, 0, none⟩) (by show w.heap.size ≤ w.heap.size + 1; omega) u0).setCell (p := ⟨w.heap.size + 1, 1, none⟩) (by show w.heap.size ≤ w.heap.size + 1; omega) u1).setCell (p := ⟨w.heap.size + 1, 2, none⟩) (by show w.heap.size ≤ w.heap.size + 1; omega) u2).setCell (p := ⟨w.heap.size + 1, 3, none⟩) (by show w.heap.size ≤ w.heap.size + 1; omega) u3).setCell (p := ⟨w.heap.size + 1, 4, none⟩) (by show w.heap.size ≤ w.heap.size + 1; omega) u4))
    by_cases h1 : K = 1
    · have b1 : (K == 1) = true := by simp [h1]
      subst h1
      have hev : ev = [.int .i64 1, .int .i64 pd, .int .i64 0, .int .i64 0, .string ⟨nm.toArray⟩] := by rw [← HE.out, if_pos rfl]; rfl
      subst hev
      have XA := Lib.hid ((HX.out.put 2 (.int .i64 0)).eq (cs' := #[.int .i64 1, .int .i64 pd, .int .i64 0, .int .i64 0, .string ⟨#[]⟩]) (by simp))
      have BA := Lib.hid (HB.out.setCell (p := ⟨g, 2, none⟩) hgw (.int .i64 0))
      have RA := Lib.hid (HR.out.far (a := ⟨g, 2, none⟩) hne (.int .i64 0))
      clear HE hK hk
      go_wp2_with fail
      refine (NM.out _).mono ?_; rintro e wn ⟨rfl, bn⟩
      have XN := XA.out.step bn; have RN := RA.out.step bn
      have BN := Lib.hid ((BA.out.trans (bn.mono BA.out.size)).setCell (p := ⟨g, 4, none⟩) hgw (.string ⟨nm.toArray⟩))
      have x0 := XN.cell 0; have x1 := XN.cell 1; have x2 := XN.cell 2; have x3 := XN.cell 3; have x4 := XN.cell 4; have xf := XN.froz; have xl := XN.lt
      have r0 := RN.cell 0; have r1 := RN.cell 1; have r2 := RN.cell 2; have r3 := RN.cell 3; have r4 := RN.cell 4; have rf := RN.froz; have rl := RN.lt
      simp only [List.getElem?_toArray, List.getElem?_cons_succ, List.getElem?_cons_zero] at x0 x1 x2 x3 x4 r0 r1 r2 r3 r4
      clear bn XN RN
      go_wp2_with fail
      refine bodyPost_ret (v := .agg #[.int .i64 1, .int .i64 pd, .int .i64 0, .int .i64 0, .string ⟨nm.toArray⟩]) (by simp [results, Tryd.results21, go_sem, *]) rfl ⟨rfl, HBE.out _ BN.out _ _ _ _ _⟩
    · by_cases h15 : K = 15
      · have b1 : (K == 1) = false := by simp [h1]
        have b15 : (K == 15) = true := by simp [h15]
        subst h15
        have hev : ev = [.int .i64 15, .int .i64 0, .int .i64 pa, .int .i64 0, .string ⟨nm.toArray⟩] := by rw [← HE.out, if_neg h1, if_pos rfl]; rfl
        subst hev
        have XA := Lib.hid ((HX.out.put 1 (.int .i64 0)).eq (cs' := #[.int .i64 15, .int .i64 0, .int .i64 pa, .int .i64 0, .string ⟨#[]⟩]) (by simp))
        have BA := Lib.hid (HB.out.setCell (p := ⟨g, 1, none⟩) hgw (.int .i64 0))
        have RA := Lib.hid (HR.out.far (a := ⟨g, 1, none⟩) hne (.int .i64 0))
        clear HE hK hk h1
        go_wp2_with fail
        refine (NM.out _).mono ?_; rintro e wn ⟨rfl, bn⟩
        have XN := XA.out.step bn; have RN := RA.out.step bn
        have BN := Lib.hid ((BA.out.trans (bn.mono BA.out.size)).setCell (p := ⟨g, 4, none⟩) hgw (.string ⟨nm.toArray⟩))
        have x0 := XN.cell 0; have x1 := XN.cell 1; have x2 := XN.cell 2; have x3 := XN.cell 3; have x4 := XN.cell 4; have xf := XN.froz; have xl := XN.lt
        have r0 := RN.cell 0; have r1 := RN.cell 1; have r2 := RN.cell 2; have r3 := RN.cell 3; have r4 := RN.cell 4; have rf := RN.froz; have rl := RN.lt
        simp only [List.getElem?_toArray, List.getElem?_cons_succ, List.getElem?_cons_zero] at x0 x1 x2 x3 x4 r0 r1 r2 r3 r4
        clear bn XN RN
        go_wp2_with fail
        refine bodyPost_ret (v := .agg #[.int .i64 15, .int .i64 0, .int .i64 pa, .int .i64 0, .string ⟨nm.toArray⟩]) (by simp [results, Tryd.results21, go_sem, *]) rfl ⟨rfl, HBE.out _ BN.out _ _ _ _ _⟩
      · by_cases h239 : K = 2 ∨ K = 3 ∨ K = 9
        · have b1 : (K == 1) = false := by simp [h1]
          have b15 : (K == 15) = false := by simp [h15]
          have hev : ev = [.int .i64 K, .int .i64 pd, .int .i64 pa, .int .i64 pb, .string ⟨#[]⟩] := by rw [← HE.out, if_neg h1, if_neg h15, if_pos h239]; rfl
          subst hev
          have BN := Lib.hid (HB.out.setCell (p := ⟨g, 3, none⟩) hgw (.int .i64 pb))
          clear h1 h15 HE hK hk
          rcases h239 with h2 | h2 | h2
          all_goals
            first
            | (have b2 : (K == 2) = true := by simp [h2])
            | (have b2 : (K == 2) = false := by simp [h2])
            first
            | (have b3 : (K == 3) = true := by simp [h2])
            | (have b3 : (K == 3) = false := by simp [h2])
            first
            | (have b9 : (K == 9) = true := by simp [h2])
            | (have b9 : (K == 9) = false := by simp [h2])
            clear h2
            go_wp2_with fail
            refine (P4.out _).mono ?_; rintro e w_ ⟨rfl, rfl⟩
            go_wp2_with fail
            refine bodyPost_ret (v := .agg #[.int .i64 K, .int .i64 pd, .int .i64 pa, .int .i64 pb, .string ⟨#[]⟩]) (by simp [results, Tryd.results21, go_sem, *]) rfl ⟨rfl, HBE.out _ BN.out _ _ _ _ _⟩
        · have b1 : (K == 1) = false := by simp [h1]
          have b15 : (K == 15) = false := by simp [h15]
          have b2 : (K == 2) = false := by simp; omega
          have b3 : (K == 3) = false := by simp; omega
          have b9 : (K == 9) = false := by simp; omega
          have hev : ev = [.int .i64 K, .int .i64 pd, .int .i64 pa, .int .i64 0, .string ⟨#[]⟩] := by rw [← HE.out, if_neg h1, if_neg h15, if_neg h239]; rfl
          subst hev
          clear h1 h15 h239 HE hK hk
          go_wp2_with fail
          refine bodyPost_ret (v := .agg #[.int .i64 K, .int .i64 pd, .int .i64 pa, .int .i64 0, .string ⟨#[]⟩]) (by simp [results, Tryd.results21, go_sem, *]) rfl ⟨rfl, HBE.out _ HB.out _ _ _ _ _⟩
end Go.Proofs.YtkmnacchiagipaaDoor
