/- The walk of the law PackedBack: what Encode gives, Decode takes, and both show alike. -/
import Derived.Test.YtajbfhdkghofbaaDoorShowMach
import Derived.Test.YtajbfhdkghofbaaDoorDecodeGood
import Derived.Test.YtajbfhdkghofbaaDoorEncodeNo
import Derived.Test.YtajbfhdkghofbaaDoorMachArg
import Derived.Test.YtajbfhdkghofbaaDoorAlike
namespace Go.Proofs.YtajbfhdkghofbaaDoor
open Go.RowKit

theorem EncF.below {w0 w1 w2 : World} {v : Value} {m : MachL} (h : EncF w0 w1 v m) (hb : Below w1.heap.size w1 w2) : EncF w0 w2 v m := by
  obtain ⟨hi, lo, h1, h2⟩ := h
  exact ⟨hi, lo, h1.others hb, h2⟩
namespace packedBack
set_option maxRecDepth 100000 in
set_option maxHeartbeats 4000000 in
theorem walk {w : World} (ht : TabP w) (v : Value) (m : MachL) (hm : MachArg w v m) :
    Calls Tryd.prog 5 #[v] w fun e w' => e = .returned (.bool true) ∧ Below w.heap.size w w' := by
  obtain ⟨hst, hma, har⟩ := hm
  have HM := Lib.hid hma
  by_cases hv : Valid m
  · have EN := Lib.hid (fun W (hb : Below w.heap.size w W) => Encode_full v m W (hma.below hb) hv)
    have CH := Lib.hid (fun W (hb : Below w.heap.size w W) => Check_ok v m W (hma.below hb) hv)
    have SH := Lib.hid (fun W (hb : Below w.heap.size w W) mv (h : MachAt W mv m) => Show_mach mv m W h hv (ht.below hb))
    have AL := Lib.hid (fun W (hb : Below w.heap.size w W) mv (h : MachAt W mv m) => alike_yes mv v m W h (hma.below hb) hv.size (fun s hs => by
      have h1 := hv.arcs
      have : s.arcs.length ≤ arcsOf m.states := by unfold arcsOf; exact mem_sum_le _ _ (List.mem_map.2 ⟨_, hs, rfl⟩)
      omega))
    have HV := Lib.hid hv
    obtain ⟨A, c, rfl, hS⟩ := hma
    clear hst har hS hv ht
    go_enter Tryd.func5, Tryd.ntmps5
    go_wp2_with fail
    refine (EN.out _ (by repeat' (first | exact Below.refl _ _ | assumption | refine Below.drew ?_ | refine Below.alloc ?_ (by first | omega | (simp; done) | (simp; omega)) _ | refine Below.setCell ?_ (by first | omega | (simp; done) | (simp; omega)) _))).mono ?_; rintro e w1 ⟨bv, rfl, hE, b1⟩
    have M1 : Blk w1 w.heap.size #[.int .i64 m.start, .slice A m.states.length c] 32 := Blk.step (Blk.new' rfl) b1
    have c1 : Below w.heap.size w w1 := ((by repeat' (first | exact Below.refl _ _ | assumption | refine Below.drew ?_ | refine Below.alloc ?_ (by first | omega | (simp; done) | (simp; omega)) _ | refine Below.setCell ?_ (by first | omega | (simp; done) | (simp; omega)) _)) : Below w.heap.size w _).trans (b1.mono (by simp))
    have HE := Lib.hid hE
    have k0 := M1.cell 0; have k1 := M1.cell 1; have lm := M1.lt
    have HM1 := Lib.hid M1
    obtain ⟨bb, bl, hbv⟩ : ∃ A n, bv = .slice A n (match bv with | .slice _ _ c => c | _ => 0) := by
      obtain ⟨hi, lo, hB, -⟩ := hE
      obtain ⟨A, c, rfl, -, -⟩ := own_form hB
      exact ⟨A, _, rfl⟩
    clear b1 hE M1 EN hbv
    go_wp2_with fail
    refine (CH.out _ c1).mono ?_; rintro e w2 ⟨rfl, b2⟩
    have c2 := c1.trans (b2.mono c1.size)
    have M2 := HM1.out.step b2
    have k0 := M2.cell 0; have k1 := M2.cell 1; have lm := M2.lt
    have HE2 := Lib.hid (HE.out.below b2)
    have HM2 := Lib.hid M2
    clear CH HM1 HE b2 M2
    go_wp2_with fail
    refine (Decode_good HE2.out HV.out).mono ?_; rintro e w3 ⟨mv, rfl, ho, b3⟩
    have c3 := c2.trans (b3.mono c2.size)
    have M3 := HM2.out.step b3
    obtain ⟨sv, rfl, hos⟩ := ho
    have ho : OwnMach w3 w2.heap.size (.agg #[.int .i64 m.start, sv]) m := ⟨sv, rfl, hos⟩
    have hat := ho.at_
    obtain ⟨A3, c4, hsv, -⟩ := hat
    have hsv : sv = .slice A3 m.states.length c4 := by simpa using hsv
    subst hsv
    have HO := Lib.hid ho.at_
    clear ho hos HM2 HE2 b3
    go_upto_region 5 with fail
    have M4 := M3.alloc (.cells #[.int .i64 m.start, .slice A3 m.states.length c4] 32)
    have X4 := Blk.new w3 #[.int .i64 m.start, .slice A3 m.states.length c4] 32
    have b4 : Below w3.heap.size w3 (w3.alloc (.cells #[.int .i64 m.start, .slice A3 m.states.length c4] 32)) := (Below.refl _ _).alloc (Nat.le_refl _) _
    have c4' := c3.trans (b4.mono c3.size)
    have HO4 := Lib.hid (HO.out.below b4)
    have lt3 := M3.lt
    generalize w3.alloc (.cells #[.int .i64 m.start, .slice A3 m.states.length c4] 32) = w4 at *
    generalize w3.heap.size = g at *
    have k0 := M4.cell 0; have k1 := M4.cell 1; have lm := M4.lt
    have x0 := X4.cell 0; have x1 := X4.cell 1; have lx := X4.lt
    have HM4 := Lib.hid M4; have HX4 := Lib.hid X4
    clear M3 HO M4 X4 b4
    go_wp2_with fail
    refine (SH.out _ c4' _ HO4.out).mono ?_; rintro e w5 ⟨rfl, b5⟩
    have c5 := c4'.trans (b5.mono c4'.size)
    have M5 := HM4.out.step b5; have X5 := HX4.out.step b5
    have k0 := M5.cell 0; have k1 := M5.cell 1; have lm := M5.lt
    have x0 := X5.cell 0; have x1 := X5.cell 1; have lx := X5.lt
    have HM5 := Lib.hid M5; have HX5 := Lib.hid X5; have HO5 := Lib.hid (HO4.out.below b5)
    clear M5 X5 HM4 HX4 HO4 b5
    go_wp2_with fail
    refine (SH.out _ c5 _ (HM.out.below c5)).mono ?_; rintro e w6 ⟨rfl, b6⟩
    have c6 := c5.trans (b6.mono c5.size)
    have M6 := HM5.out.step b6; have X6 := HX5.out.step b6
    have k0 := M6.cell 0; have k1 := M6.cell 1; have lm := M6.lt
    have x0 := X6.cell 0; have x1 := X6.cell 1; have lx := X6.lt
    have HO6 := Lib.hid (HO5.out.below b6)
    clear M6 X6 HM5 HX5 HO5 b6
    go_wp2_with fail
    refine (AL.out _ c6 _ HO6.out).mono ?_; rintro e w7 ⟨rfl, b7⟩
    have c7 := c6.trans (b7.mono c6.size)
    go_wp2_with fail
    go_ret
    exact ⟨rfl, c7⟩
  · have EN := Lib.hid (fun W (hb : Below w.heap.size w W) => Encode_no v m W (hma.below hb) har hv)
    have CH := Lib.hid (fun W (hb : Below w.heap.size w W) => Check_no v m W (hma.below hb) (fun s hs => by have := har s hs; omega) hv)
    obtain ⟨A, c, rfl, hS⟩ := hma
    clear hst har hS hv ht HM
    go_enter Tryd.func5, Tryd.ntmps5
    go_wp2_with fail
    refine (EN.out _ (by repeat' (first | exact Below.refl _ _ | assumption | refine Below.drew ?_ | refine Below.alloc ?_ (by first | omega | (simp; done) | (simp; omega)) _ | refine Below.setCell ?_ (by first | omega | (simp; done) | (simp; omega)) _))).mono ?_; rintro e w1 ⟨hno, b1⟩
    have M1 : Blk w1 w.heap.size #[.int .i64 m.start, .slice A m.states.length c] 32 := Blk.step (Blk.new' rfl) b1
    have c1 : Below w.heap.size w w1 := ((by repeat' (first | exact Below.refl _ _ | assumption | refine Below.drew ?_ | refine Below.alloc ?_ (by first | omega | (simp; done) | (simp; omega)) _ | refine Below.setCell ?_ (by first | omega | (simp; done) | (simp; omega)) _)) : Below w.heap.size w _).trans (b1.mono (by simp))
    have k0 := M1.cell 0; have k1 := M1.cell 1; have lm := M1.lt
    clear b1 M1 EN
    rcases hno with rfl | rfl
    all_goals
      go_wp2_with fail
      refine (CH.out _ c1).mono ?_; rintro e w2 ⟨hno, b2⟩
      have c2 := c1.trans (b2.mono c1.size)
      rcases hno with rfl | rfl
      all_goals
        go_wp2_with fail
        go_ret
        exact ⟨rfl, c2⟩
end packedBack
end Go.Proofs.YtajbfhdkghofbaaDoor
