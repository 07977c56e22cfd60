/- The walk of TopFormats: text and bytes tell the same machine. -/
import Derived.Test.YtajbfhdkghofbaaGreatDoorPaperTake
import Derived.Test.YtajbfhdkghofbaaGreatDoorDecodeGood
import Derived.Test.YtajbfhdkghofbaaGreatDoorAlike
import Derived.Test.YtajbfhdkghofbaaGreatDoorMade
import Derived.Test.YtajbfhdkghofbaaGreatDoorValid
namespace Go.Proofs.YtajbfhdkghofbaaGreatDoor
open Go.RowKit

theorem EncF.below {w0 w1 w2 : World} {v : Value} {m : MachL} (h : EncF w0 w1 v m) (hb : Below w1.heap.size w1 w2) : EncF w0 w2 v m := by
  obtain ⟨hi, lo, h1, h2⟩ := h
  exact ⟨hi, lo, h1.others hb, h2⟩
theorem Made_any (v : Value) (r : RawL) (w : World) (hr : RawArg w v r) : Calls Tryz.prog 4 #[v, .int .i64 8] w fun e w' => ∃ mv, e = .returned mv ∧ OwnMach w' w.heap.size mv (mkMach r 8 false) ∧ Below w.heap.size w w' := by
  have MD := Lib.hid (fun W hb => made_any v r 8 false W (hr.below hb) (by omega) (by omega))
  obtain ⟨hst, hlen, A, c, rfl, hN⟩ := hr
  clear hst hlen hN
  generalize mkMach r 8 false = m at *
  go_enter Tryz.func4, Tryz.ntmps4
  go_wp2_with fail
  refine (MD.out _ (by repeat' (first | exact Below.refl _ _ | assumption | refine Below.drew ?_ | refine Below.alloc ?_ (by first | omega | (simp; done) | (simp; omega)) _ | refine Below.setCell ?_ (by first | omega | (simp; done) | (simp; omega)) _))).mono ?_; rintro e w1 ⟨mv, rfl, ho, b1⟩
  have c1 : Below w.heap.size w w1 := ((by repeat' (first | exact Below.refl _ _ | assumption | refine Below.drew ?_ | refine Below.alloc ?_ (by first | omega | (simp; done) | (simp; omega)) _ | refine Below.setCell ?_ (by first | omega | (simp; done) | (simp; omega)) _)) : Below w.heap.size w ((w.alloc (.cells #[.int .i64 r.start, .slice A r.nodes.length c] 24)).alloc (.cells #[.int .i64 0, .slice none 0 0] 27))).trans (b1.mono (by simp; omega))
  have R1 : Blk w1 (w.heap.size + 1) #[.int .i64 0, .slice none 0 0] 27 := Blk.step (Blk.new' (by simp)) b1
  have ho1 : OwnMach w1 (w.heap.size + 2) mv m := by simpa using ho
  obtain ⟨sv, rfl, vs, hos⟩ := ho1
  obtain ⟨A2, c2, rfl, -, -⟩ := hos.form
  have k0 := R1.cell 0; have k1 := R1.cell 1; have kf0 := R1.froz 0; have kf1 := R1.froz 1; have kl := R1.lt
  have HO : Hid (∀ W, W = (w1.setCell ⟨w.heap.size + 1, 0, none⟩ (.int .i64 m.start)).setCell ⟨w.heap.size + 1, 1, none⟩ (.slice A2 m.states.length c2) → OwnMach W w.heap.size (.agg #[.int .i64 m.start, .slice A2 m.states.length c2]) m) := Lib.hid (by
    rintro W rfl
    exact (show OwnMach _ (w.heap.size + 2) _ m from ⟨_, rfl, vs, (hos.setCell (a := ⟨w.heap.size + 1, 0, none⟩) (by show w.heap.size + 1 < _; omega) _).setCell (a := ⟨w.heap.size + 1, 1, none⟩) (by show w.heap.size + 1 < _; omega) _⟩).mono (by omega))
  clear ho hos b1 MD R1
  go_wp2_with fail
  refine bodyPost_ret (v := .agg #[.int .i64 m.start, .slice A2 m.states.length c2]) (by simp [results, Tryz.results4, go_sem, *]) rfl ⟨_, rfl, HO.out _ rfl, (by repeat' (first | exact Below.refl _ _ | assumption | refine Below.drew ?_ | refine Below.alloc ?_ (by first | omega | (simp; done) | (simp; omega)) _ | refine Below.setCell ?_ (by first | omega | (simp; done) | (simp; omega)) _))⟩
theorem Alike_yes (va vb : Value) (m : MachL) (w : World) (ha : MachAt w va m) (hb : MachAt w vb m) (h60 : m.states.length ≤ 60) (hal : ∀ s ∈ m.states, s.arcs.length ≤ 1000000) :
    Calls Tryz.prog 9 #[va, vb] w fun e w' => e = .returned (.bool true) ∧ Below w.heap.size w w' := by
  have AL := Lib.hid (fun W (hx : Below w.heap.size w W) => alike_yes va vb m W (ha.below hx) (hb.below hx) h60 hal)
  obtain ⟨A, c, rfl, -⟩ := ha
  obtain ⟨A', c', rfl, -⟩ := hb
  go_enter Tryz.func9, Tryz.ntmps9
  go_wp2_with fail
  refine (AL.out _ (by repeat' (first | exact Below.refl _ _ | assumption | refine Below.drew ?_ | refine Below.alloc ?_ (by first | omega | (simp; done) | (simp; omega)) _ | refine Below.setCell ?_ (by first | omega | (simp; done) | (simp; omega)) _))).mono ?_; rintro e w1 ⟨rfl, b1⟩
  have c1 : Below w.heap.size w w1 := ((by repeat' (first | exact Below.refl _ _ | assumption | refine Below.drew ?_ | refine Below.alloc ?_ (by first | omega | (simp; done) | (simp; omega)) _ | refine Below.setCell ?_ (by first | omega | (simp; done) | (simp; omega)) _)) : Below w.heap.size w _).trans (b1.mono (by simp; omega))
  go_wp2_with fail
  go_ret
  exact ⟨rfl, c1⟩
namespace topFormats
set_option maxRecDepth 100000 in
set_option maxHeartbeats 4000000 in
theorem walk {w : World} (ht : TextW w) (v : Value) (r : RawL) (hr : RawArg w v r) :
    Calls Tryz.prog 3 #[v] w fun e w' => e = .returned (.bool true) ∧ Below w.heap.size w w' := by
  have hv : Valid (mkMach r 8 false) := valid_made r 8 false (by omega) (by omega)
  have HMD := Lib.hid (fun W hb => Made_any v r W (hr.below hb))
  obtain ⟨hst, hlen, A, c, rfl, hN⟩ := hr
  generalize mkMach r 8 false = m at *
  have HV := Lib.hid hv
  have SH := Lib.hid (fun W (hb : Below w.heap.size w W) mv (h : MachAt W mv m) => Show_mach mv m W h hv (ht.below hb).tab)
  have EN := Lib.hid (fun W mv (h : MachAt W mv m) => Encode_full mv m W h hv)
  have AL := Lib.hid (fun W mv mv2 (h : MachAt W mv m) (h2 : MachAt W mv2 m) => Alike_yes mv mv2 m W h h2 hv.size (fun s hs => by
      have h1 := hv.arcs
      have : s.arcs.length ≤ arcsOf m.states := by unfold arcsOf; exact mem_sum_le _ _ (List.mem_map.2 ⟨_, hs, rfl⟩)
      omega))
  have RD := Lib.hid (fun W (hb : Below w.heap.size w W) => take_any ⟨(machT m).toArray⟩ W (ht.below hb))
  have etl : (⟨(machT m).toArray⟩ : ByteArray).data.toList = machT m := rfl
  rw [etl] at RD
  have hml := machT_len hv
  have HTK : Hid (∀ W e W', TakeP W (machT m) e W' → ∃ A c, e = .returned (.tuple #[.agg #[.int .i64 m.start, .slice A m.states.length c], .int .i64 0]) ∧ OwnMach W' W.heap.size (.agg #[.int .i64 m.start, .slice A m.states.length c]) m) := Lib.hid (by
    rintro W e W' (⟨st, A, n, c, m', hr, -, -, rfl, ho⟩ | ⟨hbad, -⟩)
    · rw [reads_back hv hr] at ho
      obtain ⟨A3, c4, hsv, -⟩ := ho.at_
      obtain ⟨rfl, rfl, rfl, rfl⟩ : st = m.start ∧ A = A3 ∧ n = m.states.length ∧ c = c4 := by simpa using hsv
      exact ⟨_, _, rfl, ho⟩
    · exfalso
      rcases hbad with h | ⟨m', hr, h⟩
      · omega
      · rw [reads_back hv hr] at h; exact h ⟨hv, rfl⟩)
  clear hN hst hlen ht etl hml hv
  go_enter Tryz.func3, Tryz.ntmps3
  go_wp2_with fail
  refine (HMD.out _ (by repeat' (first | exact Below.refl _ _ | assumption | refine Below.drew ?_ | refine Below.alloc ?_ (by first | omega | (simp; done) | (simp; omega)) _ | refine Below.setCell ?_ (by first | omega | (simp; done) | (simp; omega)) _))).mono ?_; rintro e w1 ⟨mv, rfl, o1, r1⟩
  have c1 : Below w.heap.size w w1 := ((by repeat' (first | exact Below.refl _ _ | assumption | refine Below.drew ?_ | refine Below.alloc ?_ (by first | omega | (simp; done) | (simp; omega)) _ | refine Below.setCell ?_ (by first | omega | (simp; done) | (simp; omega)) _)) : Below w.heap.size w _).trans (r1.mono (by simp))
  have hma := o1.at_
  obtain ⟨A1, d1, rfl, -⟩ := hma
  have HM1 := Lib.hid o1.at_
  clear o1 r1 HMD
  go_upto_region 2 with fail
  have X1 := Blk.new w1 #[.int .i64 m.start, .slice A1 m.states.length d1] 27
  have bx1 : Below w1.heap.size w1 (w1.alloc (.cells #[.int .i64 m.start, .slice A1 m.states.length d1] 27)) := (Below.refl _ _).alloc (Nat.le_refl _) _
  have cb1 := c1.trans (bx1.mono c1.size)
  have HM1b := Lib.hid (HM1.out.below bx1)
  generalize w1.alloc (.cells #[.int .i64 m.start, .slice A1 m.states.length d1] 27) = wb1 at *
  generalize w1.heap.size = g1 at *
  have p10 := X1.cell 0; have p11 := X1.cell 1; have p1l := X1.lt
  have HX1 := Lib.hid X1
  clear HM1 bx1 X1
  go_wp2_with fail
  refine (SH.out _ cb1 _ HM1b.out).mono ?_; rintro e w2 ⟨rfl, b2⟩
  have c2 := cb1.trans (b2.mono cb1.size)
  have HX1 := Lib.hid (HX1.out.step b2); have HM1b := Lib.hid (HM1b.out.below b2)
  clear b2 p10 p11 p1l
  go_wp2_with fail
  refine (RD.out _ c2).mono ?_; rintro e w3 ⟨hr, b3⟩
  obtain ⟨A2, d2, rfl, ho⟩ := HTK.out _ _ _ hr
  have c3 := c2.trans (b3.mono c2.size)
  have HX1 := Lib.hid (HX1.out.step b3); have HM1b := Lib.hid (HM1b.out.below b3); have HM2 := Lib.hid ho.at_
  clear b3 hr ho RD HTK
  go_upto_region 4 with fail
  have X2 := Blk.new w3 #[.int .i64 m.start, .slice A2 m.states.length d2] 27
  have bx2 : Below w3.heap.size w3 (w3.alloc (.cells #[.int .i64 m.start, .slice A2 m.states.length d2] 27)) := (Below.refl _ _).alloc (Nat.le_refl _) _
  have cb2 := c3.trans (bx2.mono c3.size)
  have HX1 := Lib.hid (HX1.out.step bx2); have HM1b := Lib.hid (HM1b.out.below bx2); have HM2b := Lib.hid (HM2.out.below bx2)
  generalize w3.alloc (.cells #[.int .i64 m.start, .slice A2 m.states.length d2] 27) = wb2 at *
  generalize w3.heap.size = g2 at *
  have p20 := X2.cell 0; have p21 := X2.cell 1; have p2l := X2.lt
  have HX2 := Lib.hid X2
  clear HM2 bx2 X2
  go_wp2_with fail
  refine (EN.out _ _ HM2b.out).mono ?_; rintro e w4 ⟨bv, rfl, hE, b4⟩
  have c4 := cb2.trans (b4.mono cb2.size)
  have HE := Lib.hid hE
  have HX1 := Lib.hid (HX1.out.step b4); have HM1b := Lib.hid (HM1b.out.below b4)
  obtain ⟨bb, bl, hbv⟩ : ∃ A n, bv = .slice A n (match bv with | .slice _ _ c => c | _ => 0) := by
    obtain ⟨hi, lo, hB, -⟩ := hE
    obtain ⟨A, c, rfl, -, -⟩ := own_form hB
    exact ⟨A, _, rfl⟩
  clear b4 hE hbv p20 p21 p2l HX2 HM2b EN
  go_wp2_with fail
  refine (Decode_good HE.out HV.out).mono ?_; rintro e w5 ⟨mv3, rfl, ho, b5⟩
  have c5 := c4.trans (b5.mono c4.size)
  have HX1 := Lib.hid (HX1.out.step b5); have HM1b := Lib.hid (HM1b.out.below b5)
  have hma := ho.at_
  obtain ⟨A3, d3, rfl, -⟩ := hma
  have HM3 := Lib.hid ho.at_
  clear ho b5 HE
  go_upto_region 6 with fail
  have X3 := Blk.new w5 #[.int .i64 m.start, .slice A3 m.states.length d3] 27
  have bx3 : Below w5.heap.size w5 (w5.alloc (.cells #[.int .i64 m.start, .slice A3 m.states.length d3] 27)) := (Below.refl _ _).alloc (Nat.le_refl _) _
  have cb3 := c5.trans (bx3.mono c5.size)
  have HX1 := Lib.hid (HX1.out.step bx3); have HM1b := Lib.hid (HM1b.out.below bx3); have HM3b := Lib.hid (HM3.out.below bx3)
  generalize w5.alloc (.cells #[.int .i64 m.start, .slice A3 m.states.length d3] 27) = wb3 at *
  generalize w5.heap.size = g3 at *
  have p30 := X3.cell 0; have p31 := X3.cell 1; have p3l := X3.lt
  have HX3 := Lib.hid X3
  clear HM3 bx3 X3
  go_wp2_with fail
  refine (SH.out _ cb3 _ HM3b.out).mono ?_; rintro e w6 ⟨rfl, b6⟩
  have c6 := cb3.trans (b6.mono cb3.size)
  have Y1 := HX1.out.step b6; have Y3 := HX3.out.step b6
  have HM1b := Lib.hid (HM1b.out.below b6); have HM3b := Lib.hid (HM3b.out.below b6)
  have q10 := Y1.cell 0; have q11 := Y1.cell 1; have q1l := Y1.lt
  have q30 := Y3.cell 0; have q31 := Y3.cell 1; have q3l := Y3.lt
  clear b6 p30 p31 p3l HX1 HX3 Y1 Y3 SH
  go_wp2_with fail
  refine (AL.out _ _ _ HM3b.out HM1b.out).mono ?_; rintro e w7 ⟨rfl, b7⟩
  have c7 := c6.trans (b7.mono c6.size)
  go_wp2_with fail
  go_ret
  exact ⟨rfl, c7⟩
end topFormats
end Go.Proofs.YtajbfhdkghofbaaGreatDoor
