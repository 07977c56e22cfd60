/- The walk of PaperBack: a machine is read as it was shown. -/
import Derived.Test.YtajbfhdkghofbaaDoorPaperTake
import Derived.Test.YtajbfhdkghofbaaDoorMachArg
import Derived.Test.YtajbfhdkghofbaaDoorAlike
namespace Go.Proofs.YtajbfhdkghofbaaDoor
open Go.RowKit
namespace paperBack
set_option maxRecDepth 100000 in
set_option maxHeartbeats 4000000 in
theorem walk {w : World} (ht : TextW w) (v : Value) (m : MachL) (hm : MachArg w v m) :
    Calls Tryd.prog 8 #[v] w fun e w' => e = .returned (.bool true) ∧ Below w.heap.size w w' := by
  obtain ⟨hst, hma, har⟩ := hm
  have HM := Lib.hid hma; have HT := Lib.hid ht
  by_cases hv : Valid m
  · have CH := Lib.hid (fun W (hb : Below w.heap.size w W) => Check_ok v m W (hma.below hb) hv)
    have SH := Lib.hid (fun W (hb : Below w.heap.size w W) => Show_mach v m W (hma.below hb) hv (ht.below hb).tab)
    have AL := Lib.hid (fun W (hb : Below w.heap.size w W) mv (h : MachAt W mv m) => alike_yes mv v m W h (hma.below hb) hv.size (fun s hs => by
      have h1 := hv.arcs
      have : s.arcs.length ≤ arcsOf m.states := by unfold arcsOf; exact mem_sum_le _ _ (List.mem_map.2 ⟨_, hs, rfl⟩)
      omega))
    have HV := Lib.hid hv
    have RD := Lib.hid (fun W (hb : Below w.heap.size w W) => take_any ⟨(machT m).toArray⟩ W (ht.below hb))
    have etl : (⟨(machT m).toArray⟩ : ByteArray).data.toList = machT m := rfl
    rw [etl] at RD
    have hml := machT_len hv
    have HTK : Hid (∀ W e W', TakeP W (machT m) e W' → ∃ A c, e = .returned (.tuple #[.agg #[.int .i64 m.start, .slice A m.states.length c], .int .i64 0]) ∧ OwnMach W' W.heap.size (.agg #[.int .i64 m.start, .slice A m.states.length c]) m) := Lib.hid (by
      rintro W e W' (⟨st, A, n, c, m', hr, -, -, rfl, ho⟩ | ⟨hbad, -⟩)
      · rw [reads_back hv hr] at ho
        obtain ⟨A3, c4, hsv, -⟩ := ho.at_
        obtain ⟨rfl, rfl, rfl, rfl⟩ : st = m.start ∧ A = A3 ∧ n = m.states.length ∧ c = c4 := by simpa using hsv
        exact ⟨_, _, rfl, ho⟩
      · exfalso
        rcases hbad with h | ⟨m', hr, h⟩
        · omega
        · rw [reads_back hv hr] at h; exact h ⟨hv, rfl⟩)
    obtain ⟨A, c, rfl, hS⟩ := hma
    clear hst har hS hv ht etl hml
    go_enter Tryd.func8, Tryd.ntmps8
    go_wp2_with fail
    refine (SH.out _ (by repeat' (first | exact Below.refl _ _ | assumption | refine Below.drew ?_ | refine Below.alloc ?_ (by first | omega | (simp; done) | (simp; omega)) _ | refine Below.setCell ?_ (by first | omega | (simp; done) | (simp; omega)) _))).mono ?_; rintro e w1 ⟨rfl, b1⟩
    have M1 : Blk w1 w.heap.size #[.int .i64 m.start, .slice A m.states.length c] 32 := Blk.step (Blk.new' rfl) b1
    have c1 : Below w.heap.size w w1 := ((by repeat' (first | exact Below.refl _ _ | assumption | refine Below.drew ?_ | refine Below.alloc ?_ (by first | omega | (simp; done) | (simp; omega)) _ | refine Below.setCell ?_ (by first | omega | (simp; done) | (simp; omega)) _)) : Below w.heap.size w _).trans (b1.mono (by simp))
    have k0 := M1.cell 0; have k1 := M1.cell 1; have lm := M1.lt
    have HM1 := Lib.hid M1
    clear b1 M1 SH
    go_wp2_with fail
    refine (CH.out _ c1).mono ?_; rintro e w2 ⟨rfl, b2⟩
    have c2 := c1.trans (b2.mono c1.size)
    have HM2 := Lib.hid (HM1.out.step b2)
    clear CH HM1 b2 k0 k1 lm
    go_wp2_with fail
    refine (RD.out _ c2).mono ?_; rintro e w3 ⟨hr, b3⟩
    obtain ⟨A3, c4, rfl, ho⟩ := HTK.out _ _ _ hr
    have c3 := c2.trans (b3.mono c2.size)
    have M3 := HM2.out.step b3
    have HO := Lib.hid ho.at_
    clear hr ho HM2 b3 RD HTK
    go_upto_region 5 with fail
    have M4 := M3.alloc (.cells #[.int .i64 m.start, .slice A3 m.states.length c4] 32)
    have X4 := Blk.new w3 #[.int .i64 m.start, .slice A3 m.states.length c4] 32
    have b4 : Below w3.heap.size w3 (w3.alloc (.cells #[.int .i64 m.start, .slice A3 m.states.length c4] 32)) := (Below.refl _ _).alloc (Nat.le_refl _) _
    have c4' := c3.trans (b4.mono c3.size)
    have HO4 := Lib.hid (HO.out.below b4)
    have lt3 := M3.lt
    generalize w3.alloc (.cells #[.int .i64 m.start, .slice A3 m.states.length c4] 32) = w4 at *
    generalize w3.heap.size = g at *
    have k0 := M4.cell 0; have k1 := M4.cell 1; have lm := M4.lt
    have x0 := X4.cell 0; have x1 := X4.cell 1; have lx := X4.lt
    clear M3 HO M4 X4 b4
    go_wp2_with fail
    refine (AL.out _ c4' _ HO4.out).mono ?_; rintro e w7 ⟨rfl, b7⟩
    have c7 := c4'.trans (b7.mono c4'.size)
    go_wp2_with fail
    go_ret
    exact ⟨rfl, c7⟩
  · have SH := Lib.hid (fun W (hb : Below w.heap.size w W) => Show_no v m W (hma.below hb) har hv)
    have CH := Lib.hid (fun W (hb : Below w.heap.size w W) => Check_no v m W (hma.below hb) (fun s hs => by have := har s hs; omega) hv)
    obtain ⟨A, c, rfl, hS⟩ := hma
    clear hst har hS hv ht HM
    go_enter Tryd.func8, Tryd.ntmps8
    go_wp2_with fail
    refine (SH.out _ (by repeat' (first | exact Below.refl _ _ | assumption | refine Below.drew ?_ | refine Below.alloc ?_ (by first | omega | (simp; done) | (simp; omega)) _ | refine Below.setCell ?_ (by first | omega | (simp; done) | (simp; omega)) _))).mono ?_; rintro e w1 ⟨⟨er, he0, rfl⟩, b1⟩
    have M1 : Blk w1 w.heap.size #[.int .i64 m.start, .slice A m.states.length c] 32 := Blk.step (Blk.new' rfl) b1
    have c1 : Below w.heap.size w w1 := ((by repeat' (first | exact Below.refl _ _ | assumption | refine Below.drew ?_ | refine Below.alloc ?_ (by first | omega | (simp; done) | (simp; omega)) _ | refine Below.setCell ?_ (by first | omega | (simp; done) | (simp; omega)) _)) : Below w.heap.size w _).trans (b1.mono (by simp))
    have k0 := M1.cell 0; have k1 := M1.cell 1; have lm := M1.lt
    have h1 : (er == 0) = false := by simpa using he0
    have h2 : (er != 0) = true := by simpa using he0
    have h3 : er ≠ 0 := he0
    clear b1 M1 SH
    go_wp2_with fail
    refine (CH.out _ c1).mono ?_; rintro e w2 ⟨hno, b2⟩
    have c2 := c1.trans (b2.mono c1.size)
    rcases hno with rfl | rfl
    all_goals
      go_wp2_with fail
      go_ret
      exact ⟨rfl, c2⟩
end paperBack
end Go.Proofs.YtajbfhdkghofbaaDoor
