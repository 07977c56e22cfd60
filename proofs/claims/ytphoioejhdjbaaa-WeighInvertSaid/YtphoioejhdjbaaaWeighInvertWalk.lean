/- The walk of WeighInvert. -/
import Derived.Test.YtphoioejhdjbaaaCostMade
import Derived.Test.YtphoioejhdjbaaaEachPlain
import Derived.Test.YtphoioejhdjbaaaMBox
namespace Go.Proofs.Ytphoioejhdjbaaa
open Go.RowKit

abbrev swapP (p : Pl) : Pl := (p.1, p.2.2, p.2.1)
theorem inv_rw {m : MachL} {x y : List Int} {p : Pl} {c : Int} (h : RW m x y false p c) : RW (eachM invA m) y x false (swapP p) c := by
  induction h with
  | start h0 => exact RW.start (m := eachM invA m) h0
  | @step p c a q _ ha hn ih =>
    have ha' : invA a ∈ arcsP (eachM invA m) (swapP p) := by rw [arcsP_each]; exact List.mem_map_of_mem ha
    refine RW.step (a := invA a) ih ha' ?_
    unfold nextP at hn ⊢
    simp only [invA, Bool.false_or, Bool.false_eq_true, if_false] at hn ⊢
    split at hn
    · rename_i hh
      cases hn
      rw [if_pos (by rw [Bool.and_comm]; exact hh)]
    · cases hn
theorem inv_tot1 {m : MachL} {x y : List Int} {c : Int} (h : Tot m x y false c) : Tot (eachM invA m) y x false c := by
  obtain ⟨p, d, hr, he, hf, rfl⟩ := h
  refine ⟨swapP p, d, inv_rw hr, ?_, by rw [finalP_each]; exact hf, by rw [finalP_each]; rfl⟩
  unfold endsP at he ⊢
  simp only [Bool.false_or] at he ⊢
  rw [Bool.and_comm]; exact he
theorem inv_tot (m : MachL) (x y : List Int) (c : Int) : Tot (eachM invA m) y x false c ↔ Tot m x y false c := by
  refine ⟨fun h => ?_, inv_tot1⟩
  have h2 := inv_tot1 h
  have e : eachM invA (eachM invA m) = m := by rw [each_each]; exact each_id m
  rw [e] at h2; exact h2

namespace weighInvert
set_option maxRecDepth 100000 in
set_option maxHeartbeats 8000000 in
theorem walk {w : World} (v : Value) (r : RawL) (hr : RawArg w v r) (A1 : Option Addr) (n1 k1 : Nat) (xs : List Int) (hx : IntArg w A1 n1 xs) (A2 : Option Addr) (n2 k2 : Nat) (ys : List Int) (hy : IntArg w A2 n2 ys) :
    Calls Try.prog 8 #[v, .slice A1 n1 k1, .slice A2 n2 k2] w fun e w' => e = .returned (.bool true) ∧ Below w.heap.size w w' := by
  have hm : Valid (mkMach r 5 false) := valid_made r 5 false (by omega) (by omega)
  have hsm : Little (mkMach r 5 false) 5 4 := made_little r 5 false (by omega)
  have HMD := Lib.hid (fun W hb => made_any v r 5 false W (hr.below hb) (by omega) (by omega))
  have HWX := Lib.hid (fun W hb => word_any A1 n1 k1 xs 4 W (hx.below hb) (by omega))
  have HWY := Lib.hid (fun W hb => word_any A2 n2 k2 ys 4 W (hy.below hb) (by omega))
  have lx := mkWord_len xs 4; have ly := mkWord_len ys 4
  have BX := Lib.hid (word_b xs 4); have BY := Lib.hid (word_b ys 4)
  obtain ⟨hst, hlen, A, c, rfl, hN⟩ := hr
  generalize mkMach r 5 false = m at *
  generalize mkWord xs 4 = x at *
  generalize mkWord ys 4 = y at *
  have HV := Lib.hid hm; have HVI := Lib.hid (eachM_valid inv_valid hm)
  have HC := Lib.hid (hsm.ok 4 4 lx ly (by omega))
  have HCI := Lib.hid ((each_little (F := invA) (fun _ => rfl) hsm).ok 4 4 ly lx (by omega))
  have HEQ := Lib.hid (inv_tot m x y)
  have hel : (eachM invA m).states.length = m.states.length := by simp [eachM]
  have HEL := Lib.hid hel
  clear hN hst hlen hm hsm hx hy hel
  go_enter Try.func8, Try.ntmps8
  go_wp2_with fail
  refine (HMD.out _ (by repeat' (first | exact Below.refl _ _ | assumption | refine Below.drew ?_ | refine Below.alloc ?_ (by first | omega | (simp; done) | (simp; omega)) _ | refine Below.setCell ?_ (by first | omega | (simp; done) | (simp; omega)) _))).mono ?_; rintro e w1 ⟨mv, rfl, o1, r1⟩
  obtain ⟨A3, c3, rfl, s1⟩ := own_open o1
  have b1 : Below w.heap.size w w1 := ((by repeat' (first | exact Below.refl _ _ | assumption | refine Below.drew ?_ | refine Below.alloc ?_ (by first | omega | (simp; done) | (simp; omega)) _ | refine Below.setCell ?_ (by first | omega | (simp; done) | (simp; omega)) _)) : Below w.heap.size w _).trans (r1.mono (by simp))
  have X1 := Lib.hid (MBox.new (c := c3) s1)
  have b1a := b1.alloc b1.size (.cells #[.int .i64 m.start, .slice A3 m.states.length c3] 27)
  clear o1 r1 HMD s1
  go_wp2_with fail
  refine (Invert_any _ m _ X1.out.mach HV.out).mono ?_; rintro e w2 ⟨mv2, rfl, o2, r2⟩
  obtain ⟨A4, c4, rfl, s2⟩ := own_open o2
  have b2 : Below w.heap.size w w2 := b1a.trans (r2.mono b1a.size)
  have Y2 := Lib.hid (MBox.new (c := c4) s2)
  have b2a := b2.alloc b2.size (.cells #[.int .i64 (eachM invA m).start, .slice A4 (eachM invA m).states.length c4] 27)
  have X2 := Lib.hid ((X1.out.step r2).alloc (.cells #[.int .i64 (eachM invA m).start, .slice A4 (eachM invA m).states.length c4] 27))
  clear o2 s2 X1 b1a r2 b1
  go_wp2_with fail
  refine (HWX.out _ b2a).mono ?_; rintro e w3 ⟨xv, rfl, ox, r3⟩
  obtain ⟨A5, c5, rfl, rx⟩ := word_open ox
  have RX := Lib.hid rx
  have b3 : Below w.heap.size w w3 := b2a.trans (r3.mono b2a.size)
  have X3 := Lib.hid (X2.out.step r3); have Y3 := Lib.hid (Y2.out.step r3)
  clear ox rx r3 X2 Y2 b2a b2 HWX
  go_wp2_with fail
  refine (HWY.out _ b3).mono ?_; rintro e w4 ⟨yv, rfl, oy, r4⟩
  obtain ⟨A6, c6, rfl, ry⟩ := word_open oy
  have RY := Lib.hid ry
  have b4 : Below w.heap.size w w4 := b3.trans (r4.mono b3.size)
  have X4 := Lib.hid (X3.out.step r4); have Y4 := Lib.hid (Y3.out.step r4); have RX4 := Lib.hid (RX.out.below r4 rfl)
  have k4 := X4.out.blk.cell; have l4 := X4.out.blk.lt
  clear oy ry r4 X3 Y3 RX b3 HWY
  go_wp2_with fail
  clear k4 l4
  refine (cost_any _ m x y A5 A6 c5 c6 _ X4.out.mach HV.out RX4.out RY.out (by omega) (by omega) BX.out BY.out HC.out).mono ?_; rintro e w5 ⟨c0, rfl, hB, r5⟩
  have b5 : Below w.heap.size w w5 := b4.trans (r5.mono b4.size)
  have HB := Lib.hid hB
  have hc0 := (hB.nonneg HV.out).1
  have X5 := Lib.hid (X4.out.step r5); have Y5 := Lib.hid (Y4.out.step r5); have RX5 := Lib.hid (RX4.out.below r5 rfl); have RY5 := Lib.hid (RY.out.below r5 rfl)
  have k5 := X5.out.blk.cell; have l5 := X5.out.blk.lt
  have k6 := Y5.out.blk.cell; have l6 := Y5.out.blk.lt
  have hel := HEL.out
  clear hB X4 Y4 RX4 RY r5 b4
  go_wp2_with fail
  have hm5 := Y5.out.mach
  rw [hel] at hm5
  refine (cost_any _ (eachM invA m) y x A6 A5 c6 c5 _ hm5 HVI.out RY5.out RX5.out (by omega) (by omega) BY.out BX.out HCI.out).mono ?_; rintro e w6 ⟨c9, rfl, hB2, r6⟩
  have heq : c9 = c0 := hB2.same HB.out HEQ.out
  subst heq
  clear hB2
  go_wp2_with fail
  go_ret
  exact ⟨rfl, b5.trans (r6.mono b5.size)⟩
end weighInvert
end Go.Proofs.Ytphoioejhdjbaaa
