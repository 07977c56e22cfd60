/- compose.Expand. -/
import Derived.Test.YtfikkpgigicepaaCompose
namespace Go.Proofs.Ytfikkpgigicepaa
open Go.RowKit

set_option maxRecDepth 100000 in
set_option maxHeartbeats 8000000 in
theorem Expand_any (va vb : Value) (a b : MachL) (t : TriL) (W1 W2 : Int) (w : World) (ha : MachAt w va a) (hb : MachAt w vb b) (hva : Valid a) (hvb : Valid b) (ht : t.a < a.states.length ∧ t.b < b.states.length ∧ t.f ≤ 2) (hW : WtOk a b W1 W2) :
    Calls Try.prog 17 #[va, vb, triV t] w fun e w' => ∃ A c, e = .returned (.tuple #[.int .i64 (finT a b t), .slice A (hopsX a b t).length c, .int .i64 0]) ∧ w'.ownsRow w.heap.size 42 6 (.slice A (hopsX a b t).length c) (hopsX a b t).length ((hopsX a b t).flatMap hopCells) ∧ Below w.heap.size w w' := by
  have CB := Lib.hid (fun W' (h : Below w.heap.size w W') => cboth_any va vb a b W' (ha.below h) (hb.below h) hva hvb)
  obtain ⟨AA, ca, rfl, hSA⟩ := ha
  obtain ⟨AB, cb, rfl, hSB⟩ := hb
  have EX := Lib.hid (fun (W : World) (h : Below w.heap.size w W) => expand_any a b AA AB ca cb t W1 W2 W (hSA.below h (Nat.le_refl _)) (hSB.below h (Nat.le_refl _)) hva hvb ht hW)
  obtain ⟨t1, t2, t3⟩ := ht
  have g1 : ¬ (↑t.a : Int) < 0 := by omega
  have g2 : ¬ (a.states.length : Int) ≤ ↑t.a := by omega
  have g3 : ¬ (↑t.b : Int) < 0 := by omega
  have g4 : ¬ (b.states.length : Int) ≤ ↑t.b := by omega
  have g5 : ¬ (↑t.f : Int) < 0 := by omega
  have g6 : ¬ (2 : Int) < ↑t.f := by omega
  clear hSA hSB hva hvb hW t1 t2 t3
  unfold triV
  go_enter Try.func17, Try.ntmps17
  go_wp2_with fail
  refine (CB.out _ (by repeat' (first | exact Below.refl _ _ | assumption | refine Below.drew ?_ | refine Below.alloc ?_ (by first | omega | (simp; done) | (simp; omega)) _ | refine Below.setCell ?_ (by first | omega | (simp; done) | (simp; omega)) _))).mono ?_
  rintro e w1 ⟨rfl, r1⟩
  have MA : Hid (Blk w1 w.heap.size #[.int .i64 a.start, .slice AA a.states.length ca] 28) := Lib.hid (Blk.step (((Blk.new _ _ _).alloc _).alloc _) r1)
  have MBx : Hid (Blk w1 (w.heap.size + 1) #[.int .i64 b.start, .slice AB b.states.length cb] 28) := Lib.hid (Blk.step ((Blk.new' (by simp)).alloc _) r1)
  have MT : Hid (Blk w1 (w.heap.size + 2) #[.int .i64 t.a, .int .i64 t.b, .int .i64 t.f] 34) := Lib.hid (Blk.step (Blk.new' (by simp)) r1)
  have b1 : Below w.heap.size w w1 := ((by repeat' (first | exact Below.refl _ _ | assumption | refine Below.drew ?_ | refine Below.alloc ?_ (by first | omega | (simp; done) | (simp; omega)) _ | refine Below.setCell ?_ (by first | omega | (simp; done) | (simp; omega)) _)) : Below w.heap.size w _).trans (r1.mono (by simp; omega))
  have k1 := MA.out.cell; have l1 := MA.out.lt; have k2 := MBx.out.cell; have l2 := MBx.out.lt; have k3 := MT.out.cell; have l3 := MT.out.lt
  have EX1 := EX.out w1 b1
  unfold triV at EX1
  clear r1 CB EX
  generalize hft : finT a b t = ft at *
  have HFT := Lib.hid hft; clear hft
  generalize hhs : hopsX a b t = hs at *
  have HHS := Lib.hid hhs; clear hhs
  go_wp2_with fail
  refine EX1.mono ?_
  rintro e w2 ⟨A, c, rfl, ho, r2⟩
  have HO := Lib.hid (own_mono ho b1.size)
  have b2 := b1.trans (r2.mono b1.size)
  clear ho r2 k1 l1 k2 l2 k3 l3 EX1
  go_wp2_with fail
  refine bodyPost_ret (v := .tuple #[.int .i64 ft, .slice A hs.length c, .int .i64 0]) (by simp [results, Try.results17, go_sem, *]) rfl ⟨A, c, by rw [HFT.out, HHS.out], by rw [HHS.out]; exact HO.out, b2⟩
end Go.Proofs.Ytfikkpgigicepaa
