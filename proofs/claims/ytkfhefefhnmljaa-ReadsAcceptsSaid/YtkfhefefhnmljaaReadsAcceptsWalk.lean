/- The walk of ReadsAccepts. -/
import Derived.Test.YtkfhefefhnmljaaEachPlain
import Derived.Test.YtkfhefefhnmljaaBitsWalk
namespace Go.Proofs.Ytkfhefefhnmljaa
open Go.RowKit

theorem acc_fold (ss : List StateL) : ∀ b : BitsL, b.acc = true → (∀ s ∈ ss, s.arcs.all accA = true) → (ss.foldl bitsS b).acc = true := by
  induction ss with
  | nil => intro b h _; exact h
  | cons s ss ih => intro b h hs; exact ih _ (by simp [bitsS, h, hs s (by simp)]) (fun x hx => hs x (by simp [hx]))
theorem reads_acc (m : MachL) : (bitsOf (eachM readA m).states).acc = true := by
  show (bitsT (eachM readA m).states).acc = true
  refine acc_fold _ _ rfl fun s hs => ?_
  obtain ⟨s0, -, rfl⟩ := List.mem_map.1 hs
  simp [accA, readA]

namespace readsAccepts
set_option maxRecDepth 100000 in
set_option maxHeartbeats 8000000 in
theorem walk {w : World} (v : Value) (r : RawL) (hr : RawArg w v r) :
    Calls Try.prog 3 #[v] w fun e w' => e = .returned (.bool true) ∧ Below w.heap.size w w' := by
  have hm : Valid (mkMach r 8 false) := valid_made r 8 false (by omega) (by omega)
  have HMD := Lib.hid (fun W hb => made_any v r 8 false W (hr.below hb) (by omega) (by omega))
  obtain ⟨hst, hlen, A, c, rfl, hN⟩ := hr
  generalize mkMach r 8 false = m at *
  have hi : Valid (eachM readA m) := eachM_valid read_valid hm
  have e1 : eachM readA (eachM readA m) = eachM readA m := by rw [each_each]; rfl
  have e2 : eachM writeA (eachM readA m) = eachM readA m := by rw [each_each]; rfl
  have e3 := reads_acc m
  have e4 : (eachM readA m).states.length = m.states.length := by simp [eachM]
  have E1 := Lib.hid e1; have E2 := Lib.hid e2; have E3 := Lib.hid e3; have E4 := Lib.hid e4
  have HV := Lib.hid hm; have HI := Lib.hid hi
  clear hN hm hi e1 e2 e3 e4 hst hlen
  go_enter Try.func3, Try.ntmps3
  go_wp2_with fail
  refine (HMD.out _ (by repeat' (first | exact Below.refl _ _ | assumption | refine Below.drew ?_ | refine Below.alloc ?_ (by first | omega | (simp; done) | (simp; omega)) _ | refine Below.setCell ?_ (by first | omega | (simp; done) | (simp; omega)) _))).mono ?_; rintro e w1 ⟨mv, rfl, o1, r1⟩
  have a1 := o1.at_; obtain ⟨A1, q1, rfl, -⟩ := a1
  have m1 := Lib.hid o1.at_
  obtain ⟨c1, -⟩ := bcell r1
  have z1 := r1.size
  clear o1 HMD
  go_wp2_with fail
  refine (Reads_any _ m _ (m1.out.below ((Below.refl _ _).alloc (Nat.le_refl _) _)) HV.out).mono ?_; rintro e w2 ⟨mv2, rfl, o2, r2⟩
  have a2 := o2.at_; obtain ⟨A2, q2, rfl, -⟩ := a2
  have m2 := Lib.hid o2.at_
  obtain ⟨c2, -⟩ := bcell r2
  have z2 := r2.size
  simp at z1 z2
  have y12 : w1.heap.size < w2.heap.size := by omega
  clear o2
  have B2 : Below w1.heap.size w1 w2 := (Below.alloc (Below.refl _ _) (Nat.le_refl _) _).trans (r2.mono (by simp))
  go_wp2_with fail
  refine (Bits_any _ (eachM readA m) _ (m2.out.below ((Below.refl _ _).alloc (Nat.le_refl _) _)) HI.out).mono ?_; rintro e w3 ⟨rfl, r3⟩
  rw [E3.out]
  generalize (bitsOf (eachM readA m).states).full = b1
  generalize (bitsOf (eachM readA m).states).cert = b2
  generalize (bitsOf (eachM readA m).states).sorted = b3
  generalize (bitsOf (eachM readA m).states).plain = b4
  obtain ⟨c3, -⟩ := bcell r3
  have z3 := r3.size
  simp at z3
  have y13 : w1.heap.size < w3.heap.size := by omega
  have y23 : w2.heap.size < w3.heap.size := by omega
  have B3 : Below w2.heap.size w2 w3 := (Below.alloc (Below.refl _ _) (Nat.le_refl _) _).trans (r3.mono (by simp))
  go_wp2_with fail
  refine (Reads_any _ (eachM readA m) _ (m2.out.below (B3.alloc B3.size _)) HI.out).mono ?_; rintro e w4 ⟨mv4, rfl, o4, r4⟩
  have a4 := o4.at_; obtain ⟨A4, q4, rfl, -⟩ := a4
  have m4 := Lib.hid (machAt_eq o4.at_ E1.out)
  obtain ⟨c4, -⟩ := bcell r4
  have z4 := r4.size
  simp at z4
  have y14 : w1.heap.size < w4.heap.size := by omega
  have y24 : w2.heap.size < w4.heap.size := by omega
  have y34 : w3.heap.size < w4.heap.size := by omega
  have B4 : Below w3.heap.size w3 w4 := (Below.alloc (Below.refl _ _) (Nat.le_refl _) _).trans (r4.mono (by simp))
  clear o4
  go_wp2_with fail
  refine (Writes_any _ (eachM readA m) _ (m2.out.below ((Below.step B3 B4).alloc (by have := (Below.step B3 B4).size; omega) _)) HI.out).mono ?_; rintro e w5 ⟨mv5, rfl, o5, r5⟩
  have a5 := o5.at_; obtain ⟨A5, q5, rfl, -⟩ := a5
  have m5 := Lib.hid (machAt_eq o5.at_ E2.out)
  obtain ⟨c5, -⟩ := bcell r5
  have z5 := r5.size
  simp at z5
  have y15 : w1.heap.size < w5.heap.size := by omega
  have y25 : w2.heap.size < w5.heap.size := by omega
  have y35 : w3.heap.size < w5.heap.size := by omega
  have y45 : w4.heap.size < w5.heap.size := by omega
  have B5 : Below w4.heap.size w4 w5 := (Below.alloc (Below.refl _ _) (Nat.le_refl _) _).trans (r5.mono (by simp))
  clear o5
  have b05 : Below w.heap.size w w5 := (((Below.alloc (Below.refl _ _) (Nat.le_refl _) _).trans (r1.mono (by simp))).trans ((Below.step (Below.step (Below.step B2 B3) B4) B5).mono (by omega)))
  have N2 := Lib.hid (m2.out.below (Below.step (Below.step B3 B4) B5))
  have N4 := Lib.hid (m4.out.below B5)
  have N5 := m5
  have e5 : ((eachM readA m).states.length : Int) = m.states.length := by rw [E4.out]
  go_wp2_with fail
  refine (alike_yes _ _ (eachM readA m) _ (N2.out.below ((Below.refl _ _).alloc (Nat.le_refl _) _)) (N4.out.below ((Below.refl _ _).alloc (Nat.le_refl _) _)) HI.out.size (valid_arcs_le HI.out)).mono ?_; rintro e w6 ⟨rfl, r6⟩
  obtain ⟨c6, -⟩ := bcell r6
  have z6 := r6.size
  simp at z6
  have y16 : w1.heap.size < w6.heap.size := by omega
  have y26 : w2.heap.size < w6.heap.size := by omega
  have y36 : w3.heap.size < w6.heap.size := by omega
  have y46 : w4.heap.size < w6.heap.size := by omega
  have y56 : w5.heap.size < w6.heap.size := by omega
  have B6 : Below w5.heap.size w5 w6 := (Below.alloc (Below.refl _ _) (Nat.le_refl _) _).trans (r6.mono (by simp))
  go_wp2_with fail
  refine (alike_yes _ _ (eachM readA m) _ ((N2.out.below B6)) ((N5.out.below B6)) HI.out.size (valid_arcs_le HI.out)).mono ?_; rintro e w7 ⟨rfl, r7⟩
  obtain ⟨c7, -⟩ := bcell r7
  have z7 := r7.size
  have y17 : w1.heap.size < w7.heap.size := by omega
  have y27 : w2.heap.size < w7.heap.size := by omega
  have y37 : w3.heap.size < w7.heap.size := by omega
  have y47 : w4.heap.size < w7.heap.size := by omega
  have y57 : w5.heap.size < w7.heap.size := by omega
  go_wp2_with fail
  go_ret
  exact ⟨rfl, b05.trans ((Below.step B6 r7).mono (by have := b05.size; omega))⟩
end readsAccepts
end Go.Proofs.Ytkfhefefhnmljaa
