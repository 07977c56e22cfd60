/- The walk of BestLeast. -/
import Derived.Test.YtndajklppipckaaBest
import Derived.Test.YtndajklppipckaaFollow
import Derived.Test.YtndajklppipckaaPaid
import Derived.Test.YtndajklppipckaaWalkW
import Derived.Test.YtndajklppipckaaMade
import Derived.Test.YtndajklppipckaaValid
namespace Go.Proofs.Ytndajklppipckaa
open Go.RowKit

theorem PaidR.eq {m : MachL} {s : Nat} {l : List Int} {p p' : Int} (h : PaidR m s l p) (h' : PaidR m s l p') : p = p' := by
  rcases h with ⟨h1, h2⟩ | ⟨t, z, h1, h2, h3, h4, -⟩
  · rcases h' with ⟨k1, k2⟩ | ⟨t, z, k1, k2, k3, k4, -⟩
    · omega
    · exact absurd (h2 t z k1 k2) k3
  · rcases h' with ⟨k1, k2⟩ | ⟨t', z', k1, k2, k3, k4, -⟩
    · exact absurd (k2 t z h1 h2) h3
    · rw [h1] at k1; cases k1
      rw [h2] at k2; cases k2
      omega

namespace bestLeast
set_option maxRecDepth 100000 in
set_option maxHeartbeats 8000000 in
theorem walk {w : World} (v : Value) (r : RawL) (hr : RawArg w v r) (A1 : Option Addr) (n1 k1 : Nat) (xs : List Int) (hx : IntArg w A1 n1 xs) :
    Calls Try.prog 6 #[v, .slice A1 n1 k1] w fun e w' => e = .returned (.bool true) ∧ Below w.heap.size w w' := by
  have hm : Valid (mkMach r 8 false) := valid_made r 8 false (by omega) (by omega)
  have hsm : Small (mkMach r 8 false) := small_made r 8 false
  have hst0 : 0 ≤ (mkMach r 8 false).start := pick_lo _ _ (by unfold mkN; omega)
  have HMD := Lib.hid (fun W hb => made_any v r 8 false W (hr.below hb) (by omega) (by omega))
  obtain ⟨hst, hlen, A, c, rfl, hN⟩ := hr
  generalize mkMach r 8 false = m at *
  have HV := Lib.hid hm; have HSM := Lib.hid hsm; have HST := Lib.hid hst0; have HX := Lib.hid hx
  clear hN hst hlen hm hsm hst0 hx
  go_enter Try.func6, Try.ntmps6
  go_wp2_with fail
  refine (HMD.out _ (by repeat' (first | exact Below.refl _ _ | assumption | refine Below.drew ?_ | refine Below.alloc ?_ (by first | omega | (simp; done) | (simp; omega)) _ | refine Below.setCell ?_ (by first | omega | (simp; done) | (simp; omega)) _))).mono ?_; rintro e w1 ⟨mv, rfl, o1, r1⟩
  obtain ⟨A3, c3, rfl, s1⟩ := own_open o1
  have b1 : Below w.heap.size w w1 := ((by repeat' (first | exact Below.refl _ _ | assumption | refine Below.drew ?_ | refine Below.alloc ?_ (by first | omega | (simp; done) | (simp; omega)) _ | refine Below.setCell ?_ (by first | omega | (simp; done) | (simp; omega)) _)) : Below w.heap.size w _).trans (r1.mono (by simp))
  have X1 := Lib.hid (MBox.new (c := c3) s1)
  have b1a := b1.alloc b1.size (.cells #[.int .i64 m.start, .slice A3 m.states.length c3] 31)
  clear o1 r1 HMD s1
  go_wp2_with fail
  refine (Best_any _ m _ X1.out.mach HV.out HSM.out HST.out).mono ?_; rintro e w2 ⟨hB, r2⟩
  have b2 : Below w.heap.size w w2 := b1a.trans (r2.mono b1a.size)
  obtain ⟨D, bA, bn, bc, er, rfl, hcase⟩ : ∃ (D : Int) (bA : Option Addr) (bn bc : Nat) (er : Int), e = .returned (.tuple #[.agg #[.int .i64 D, .slice bA bn bc], .int .i64 er]) ∧ ((er = 12 ∧ ∀ A B, ¬ Tw m m.start.toNat A B) ∨ (er = 0 ∧ 0 ≤ D ∧ D ≤ 100000000 ∧ ∀ A B, Tw m m.start.toNat A B → lle (D, (bn : Int)) (A, B))) := by
    rcases hB with ⟨rfl, hn⟩ | ⟨D, av, lb, t, z, rfl, ho, -, -, -, -, h1, h2, h3, -⟩
    · exact ⟨0, none, 0, 0, 12, rfl, .inl ⟨rfl, hn⟩⟩
    · obtain ⟨bA, bc, rfl, -, -⟩ := own_form ho
      exact ⟨D, bA, lb.length, bc, 0, rfl, .inr ⟨rfl, h1, h2, h3⟩⟩
  have HCASE := Lib.hid hcase
  have bz : Below w2.heap.size w2 (w2.alloc (.cells #[.int .i64 D, .slice bA bn bc] 49)) := (Below.refl _ _).alloc (Nat.le_refl _) _
  have X2 := Lib.hid ((X1.out.step r2).step bz)
  have P2 : Hid (Blk (w2.alloc (.cells #[.int .i64 D, .slice bA bn bc] 49)) w2.heap.size #[.int .i64 D, .slice bA bn bc] 49) := Lib.hid (Blk.new _ _ _)
  have b2a := b2.trans (bz.mono b2.size)
  have k2 := (X1.out.step r2).blk.cell; have l2 := (X1.out.step r2).blk.lt
  clear hB hcase r2 X1 b1a bz
  go_wp2_with fail
  clear k2 l2
  generalize w2.alloc (.cells #[.int .i64 D, .slice bA bn bc] 49) = w3 at *
  generalize w2.heap.size = pb at *
  refine (walk_any _ m A1 n1 k1 xs _ X2.out.mach HV.out HST.out (HX.out.below b2a)).mono ?_; rintro e w4 ⟨lv, rfl, ⟨l, hol, hll⟩, r4⟩
  obtain ⟨A5, c5, rfl, -, -⟩ := own_form hol
  have RL := Lib.hid (Rd.of_own hol)
  have b4 : Below w.heap.size w w4 := b2a.trans (r4.mono b2a.size)
  have X4 := Lib.hid (X2.out.step r4); have P4 := Lib.hid (P2.out.step r4)
  have k4 := X4.out.blk.cell; have l4 := X4.out.blk.lt
  clear hol r4 X2 P2 b2a
  go_wp2_with fail
  clear k4 l4
  refine (Follow_any _ m A5 c5 l _ X4.out.mach HV.out HSM.out HST.out RL.out (by omega)).mono ?_; rintro e w5 ⟨hF, r5⟩
  have b5 : Below w.heap.size w w5 := b4.trans (r5.mono b4.size)
  obtain ⟨xv, yv, cF, fF, rfl, hf⟩ : ∃ (xv yv : Value) (cF fF : Int), e = .returned (.tuple #[xv, yv, .int .i64 cF, .int .i64 fF]) ∧ ((fF = 12 ∧ cF = 0 ∧ ∀ t z, trun m m.start.toNat l = some t → m.states[t.q]? = some z → z.final = 1000000001) ∨ (fF = 0 ∧ ∃ t z, trun m m.start.toNat l = some t ∧ m.states[t.q]? = some z ∧ z.final ≠ 1000000001 ∧ cF = t.c + z.final)) := by
    rcases hF with ⟨rfl, h⟩ | ⟨xv, yv, t, z, rfl, h1, h2, h3, -, -⟩
    · exact ⟨_, _, 0, 12, rfl, .inl ⟨rfl, rfl, h⟩⟩
    · exact ⟨xv, yv, _, 0, rfl, .inr ⟨rfl, t, z, h1, h2, h3, rfl⟩⟩
  have HF := Lib.hid hf
  have X5 := Lib.hid (X4.out.step r5); have P5 := Lib.hid (P4.out.step r5); have RL5 := Lib.hid (RL.out.below r5 rfl)
  have k5 := X5.out.blk.cell; have l5 := X5.out.blk.lt
  clear hF hf r5 X4 P4 RL b4
  go_wp2_with fail
  clear k5 l5
  refine (paid_any _ m A5 c5 l _ X5.out.mach HV.out HSM.out HST.out RL5.out (by omega)).mono ?_; rintro e w6 ⟨p, rfl, hp, r6⟩
  have b6 : Below w.heap.size w w6 := b5.trans (r6.mono b5.size)
  have X6 := Lib.hid (X5.out.step r6); have P6 := Lib.hid (P5.out.step r6); have RL6 := Lib.hid (RL5.out.below r6 rfl)
  have HP := Lib.hid hp
  have hall : (p = 1000000001 ∧ fF = 12 ∧ cF = 0 ∧ (er = 0 ∨ er = 12)) ∨ (p ≠ 1000000001 ∧ fF = 0 ∧ cF = p ∧ er = 0 ∧ (D < p ∨ (D = p ∧ bn ≤ l.length)) ∧ 0 ≤ p ∧ p ≤ 200000000) := by
    rcases hp with ⟨h1, h2⟩ | ⟨t, z, h1, h2, h3, h4, h5, h6⟩
    · left
      rcases HF.out with ⟨g1, g2, -⟩ | ⟨-, t, z, g1, g2, g3, -⟩
      · refine ⟨h1, g1, g2, ?_⟩
        rcases HCASE.out with h | h
        · exact .inr h.1
        · exact .inl h.1
      · exact absurd (h2 t z g1 g2) g3
    · right
      have htw := trun_tw h1 h2 h3
      rw [← h4] at htw
      rcases HF.out with ⟨-, -, g3⟩ | ⟨g1, t', z', g2, g3, g4, g5⟩
      · exact absurd (g3 t z h1 h2) h3
      · rw [h1] at g2; cases g2
        rw [h2] at g3; cases g3
        rcases HCASE.out with h | ⟨e1, e2, e3, e4⟩
        · exact absurd htw (h.2 _ _)
        · have e5 := e4 _ _ htw
          unfold lle at e5
          simp only at e5
          refine ⟨by omega, g1, by omega, e1, ?_, h5, h6⟩
          rcases e5 with h | ⟨h, h'⟩
          · exact .inl h
          · exact .inr ⟨h, by omega⟩
  clear hp HF HCASE r6 X5 P5 RL5 b5
  rcases hall with ⟨rfl, rfl, rfl, hy⟩ | ⟨hp, rfl, rfl, rfl, hor, hp0, hp1⟩
  · rcases hy with rfl | rfl
    all_goals
      go_wp2_with fail
      go_ret
      exact ⟨rfl, b6⟩
  · have e1 : (cF == 1000000001) = false := by simpa using hp
    have k6 := X6.out.blk.cell; have l6 := X6.out.blk.lt
    go_wp2_with fail
    refine (paid_any _ m A5 c5 l _ X6.out.mach HV.out HSM.out HST.out RL6.out (by omega)).mono ?_; rintro e w7 ⟨p', rfl, hp', r7⟩
    obtain rfl : p' = cF := hp'.eq HP.out
    have b7 : Below w.heap.size w w7 := b6.trans (r7.mono b6.size)
    have P7 := P6.out.step r7
    have k7 := P7.cell; have l7 := P7.lt
    clear hp' r7 k6 l6 P7
    rcases hor with hlt | ⟨rfl, hbl⟩
    · have h9 : D ≤ p' := by omega
      go_wp2_with fail
      go_ret
      exact ⟨rfl, b7⟩
    · have hbl' : (bn : Int) ≤ (l.length : Int) := by omega
      go_wp2_with fail
      go_ret
      exact ⟨rfl, b7⟩
end bestLeast
end Go.Proofs.Ytndajklppipckaa
