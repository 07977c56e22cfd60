/- The walk of WeighProject. -/
import Derived.Test.YtphoioejhdjbaaaCostMade
import Derived.Test.YtphoioejhdjbaaaEachPlain
import Derived.Test.YtphoioejhdjbaaaMBox
import Derived.Deep.RegionHeld3
import Derived.Deep.DeepCutAuto
namespace Go.Proofs.Ytphoioejhdjbaaa
open Go.RowKit

theorem read_rw1 {m : MachL} {x : List Int} {p : Pl} {c : Int} (h : RW (eachM readA m) x x false p c) : p.2.2 = p.2.1 ∧ RW m x [] true (p.1, p.2.1, 0) c := by
  induction h with
  | start h0 => exact ⟨rfl, RW.start (m := m) h0⟩
  | @step p c a q _ ha hn ih =>
    rw [arcsP_each] at ha
    obtain ⟨a, hb, rfl⟩ := List.mem_map.1 ha
    have ha' : a ∈ arcsP m (p.1, p.2.1, 0) := hb
    obtain ⟨ih1, ih2⟩ := ih
    unfold nextP at hn
    simp only [readA, Bool.false_or, Bool.false_eq_true, if_false, ih1] at hn
    split at hn
    · rename_i hh
      cases hn
      refine ⟨rfl, RW.step (a := a) ih2 ha' ?_⟩
      unfold nextP
      simp only [Bool.true_or, Bool.and_true, if_true]
      rw [if_pos (by simpa using hh)]
    · cases hn
theorem read_rw2 {m : MachL} {x : List Int} {p : Pl} {c : Int} (h : RW m x [] true p c) : p.2.2 = 0 ∧ RW (eachM readA m) x x false (p.1, p.2.1, p.2.1) c := by
  induction h with
  | start h0 => exact ⟨rfl, RW.start (m := eachM readA m) h0⟩
  | @step p c a q _ ha hn ih =>
    obtain ⟨ih1, ih2⟩ := ih
    unfold nextP at hn
    simp only [Bool.true_or, Bool.and_true, if_true] at hn
    split at hn
    · rename_i hh
      cases hn
      refine ⟨ih1, RW.step (a := readA a) ih2 (by rw [arcsP_each]; exact List.mem_map_of_mem ha) ?_⟩
      unfold nextP
      simp only [readA, Bool.false_or, Bool.false_eq_true, if_false, Bool.and_self]
      rw [if_pos hh]
    · cases hn
theorem read_tot (m : MachL) (x : List Int) (c : Int) : Tot (eachM readA m) x x false c ↔ Tot m x [] true c := by
  constructor
  · rintro ⟨p, d, hr, he, hf, rfl⟩
    obtain ⟨h1, h2⟩ := read_rw1 hr
    rw [finalP_each] at *
    refine ⟨_, d, h2, ?_, hf, rfl⟩
    unfold endsP at *
    simp only [Bool.and_eq_true] at he
    simp only [Bool.true_or, Bool.and_true]; exact he.1
  · rintro ⟨p, d, hr, he, hf, rfl⟩
    obtain ⟨h1, h2⟩ := read_rw2 hr
    refine ⟨_, d, h2, ?_, by rw [finalP_each]; exact hf, by rw [finalP_each]; rfl⟩
    unfold endsP at *
    simp only [Bool.true_or, Bool.and_true] at he
    simp only [Bool.false_or, Bool.and_self]; exact he
theorem any_rw {m : MachL} {x y : List Int} {p : Pl} {c : Int} (h : RW m x y false p c) : RW m x [] true (p.1, p.2.1, 0) c := by
  induction h with
  | start h0 => exact RW.start h0
  | @step p c a q _ ha hn ih =>
    unfold nextP at hn
    simp only [Bool.false_or, Bool.false_eq_true, if_false] at hn
    split at hn
    · rename_i hh
      cases hn
      refine RW.step (a := a) ih ha ?_
      unfold nextP
      simp only [Bool.true_or, Bool.and_true, if_true]
      simp only [Bool.and_eq_true] at hh
      rw [if_pos hh.1]
    · cases hn
theorem any_tot {m : MachL} {x y : List Int} {c : Int} (h : Tot m x y false c) : Tot m x [] true c := by
  obtain ⟨p, d, hr, he, hf, rfl⟩ := h
  refine ⟨_, d, any_rw hr, ?_, hf, rfl⟩
  unfold endsP at *
  simp only [Bool.and_eq_true] at he
  simp only [Bool.true_or, Bool.and_true]; exact he.1
theorem Best.le {T T' : Int → Prop} {r r' : Int} (h : Best T r) (h' : Best T' r') (e : ∀ c, T' c → T c) : r ≤ r' := by
  have hi : INF = 1000000001 := rfl
  rcases h with ⟨h1, h2⟩ | ⟨h1, h2, h3⟩
  · rcases h' with ⟨k1, k2⟩ | ⟨k1, k2, -⟩
    · omega
    · exact absurd (e _ k1) (h2 _)
  · rcases h' with ⟨k1, k2⟩ | ⟨k1, k2, -⟩
    · omega
    · exact h2 _ (e _ k1)

namespace weighProject
set_option maxRecDepth 100000 in
set_option maxHeartbeats 8000000 in
theorem walk {w : World} (v : Value) (r : RawL) (hr : RawArg w v r) (A1 : Option Addr) (n1 k1 : Nat) (xs : List Int) (hx : IntArg w A1 n1 xs) (A2 : Option Addr) (n2 k2 : Nat) (ys : List Int) (hy : IntArg w A2 n2 ys) :
    Calls Try.prog 10 #[v, .slice A1 n1 k1, .slice A2 n2 k2] w fun e w' => e = .returned (.bool true) ∧ Below w.heap.size w w' := by
  have hm : Valid (mkMach r 5 false) := valid_made r 5 false (by omega) (by omega)
  have hsm : Little (mkMach r 5 false) 5 4 := made_little r 5 false (by omega)
  have HMD := Lib.hid (fun W hb => made_any v r 5 false W (hr.below hb) (by omega) (by omega))
  have HWX := Lib.hid (fun W hb => word_any A1 n1 k1 xs 4 W (hx.below hb) (by omega))
  have HWY := Lib.hid (fun W hb => word_any A2 n2 k2 ys 4 W (hy.below hb) (by omega))
  have lx := mkWord_len xs 4; have ly := mkWord_len ys 4
  have BX := Lib.hid (word_b xs 4); have BY := Lib.hid (word_b ys 4)
  obtain ⟨hst, hlen, A, c, rfl, hN⟩ := hr
  generalize mkMach r 5 false = m at *
  generalize mkWord xs 4 = x at *
  generalize mkWord ys 4 = y at *
  have HV := Lib.hid hm; have HVI := Lib.hid (eachM_valid read_valid hm)
  have HC := Lib.hid (hsm.ok 4 4 lx ly (by omega))
  have HCI := Lib.hid ((each_little (F := readA) (fun _ => rfl) hsm).ok 4 4 lx lx (by omega))
  have HCR := Lib.hid (hsm.ok (ly := 0) 4 4 lx (by omega) (by omega))
  have HEQ := Lib.hid (read_tot m x)
  have hel : (eachM readA m).states.length = m.states.length := by simp [eachM]
  have HEL := Lib.hid hel
  clear hN hst hlen hm hsm hx hy hel
  go_enter Try.func10, Try.ntmps10
  go_wp2_with fail
  refine (HMD.out _ (by repeat' (first | exact Below.refl _ _ | assumption | refine Below.drew ?_ | refine Below.alloc ?_ (by first | omega | (simp; done) | (simp; omega)) _ | refine Below.setCell ?_ (by first | omega | (simp; done) | (simp; omega)) _))).mono ?_; rintro e w1 ⟨mv, rfl, o1, r1⟩
  obtain ⟨A3, c3, rfl, s1⟩ := own_open o1
  have b1 : Below w.heap.size w w1 := ((by repeat' (first | exact Below.refl _ _ | assumption | refine Below.drew ?_ | refine Below.alloc ?_ (by first | omega | (simp; done) | (simp; omega)) _ | refine Below.setCell ?_ (by first | omega | (simp; done) | (simp; omega)) _)) : Below w.heap.size w _).trans (r1.mono (by simp))
  have X1 := Lib.hid (MBox.new (c := c3) s1)
  have b1a := b1.alloc b1.size (.cells #[.int .i64 m.start, .slice A3 m.states.length c3] 27)
  clear o1 r1 HMD s1
  go_wp2_with fail
  refine (Reads_any _ m _ X1.out.mach HV.out).mono ?_; rintro e w2 ⟨mv2, rfl, o2, r2⟩
  obtain ⟨A4, c4, rfl, s2⟩ := own_open o2
  have b2 : Below w.heap.size w w2 := b1a.trans (r2.mono b1a.size)
  have Y2 := Lib.hid (MBox.new (c := c4) s2)
  have b2a := b2.alloc b2.size (.cells #[.int .i64 (eachM readA m).start, .slice A4 (eachM readA m).states.length c4] 27)
  have X2 := Lib.hid ((X1.out.step r2).alloc (.cells #[.int .i64 (eachM readA m).start, .slice A4 (eachM readA m).states.length c4] 27))
  clear o2 s2 X1 b1a r2 b1
  go_wp2_with fail
  refine (HWX.out _ b2a).mono ?_; rintro e w3 ⟨xv, rfl, ox, r3⟩
  obtain ⟨A5, c5, rfl, rx⟩ := word_open ox
  have RX := Lib.hid rx
  have b3 : Below w.heap.size w w3 := b2a.trans (r3.mono b2a.size)
  have X3 := Lib.hid (X2.out.step r3); have Y3 := Lib.hid (Y2.out.step r3)
  clear ox rx r3 X2 Y2 b2a b2 HWX
  have k3 := X3.out.blk.cell; have l3 := X3.out.blk.lt
  go_wp2_with fail
  clear k3 l3
  refine (WReads_any _ m x A5 c5 _ X3.out.mach HV.out RX.out (by omega) BX.out HCR.out).mono ?_; rintro e w4 ⟨n0, rfl, hBn, r4⟩
  have b4 : Below w.heap.size w w4 := b3.trans (r4.mono b3.size)
  have HBN := Lib.hid hBn
  have X4 := Lib.hid (X3.out.step r4); have Y4 := Lib.hid (Y3.out.step r4); have RX4 := Lib.hid (RX.out.below r4 rfl)
  have k4 := X4.out.blk.cell; have l4 := X4.out.blk.lt
  clear hBn X3 Y3 RX r4 b3
  go_wp2_with fail
  have q0 : w4.cell? ⟨w1.heap.size, 0, none⟩ = some (.int .i64 m.start) := by simpa using k4 0
  have q1 : w4.cell? ⟨w1.heap.size, 1, none⟩ = some (.slice A3 m.states.length c3) := by simpa using k4 1
  go_cut [13] (fun cv wx => ∃ c0 : Int, cv = .int .i64 c0 ∧ Best (Tot m x y false) c0 ∧ Below w4.heap.size w4 wx)
  case first =>
    go_region_held3 (fun w' => w'.cell? ⟨w1.heap.size, 0, none⟩ = some (.int .i64 m.start) ∧ w'.cell? ⟨w1.heap.size, 1, none⟩ = some (.slice A3 m.states.length c3) ∧ Below w4.heap.size w4 w') (first | (have q : Below w4.heap.size w4 w4.drew := (Below.refl _ _).drew; exact ⟨cellB q q0, cellB q q1, q⟩) | (go_split_ands; have q := Below.step (a := w4) (by assumption) bn; exact ⟨cellB q q0, cellB q q1, q⟩)) (first | (go_at_call 24; go_split_ands; refine (HWY.out _ (b4.trans (Below.mono (by assumption) b4.size))).mono ?_; rintro e wn ⟨yv, rfl, oy, bn⟩; obtain ⟨A6, c6, rfl, ry⟩ := word_open oy) | (go_at_call 27; go_split_ands; refine (cost_any _ m x y A5 A6 c5 c6 _ (X4.out.step (by assumption)).mach HV.out (RX4.out.below (by assumption) rfl) ry (by omega) (by omega) BX.out BY.out HC.out).mono ?_; rintro e wn2 ⟨c0, rfl, hB, bn⟩))
    all_goals
      go_wp2_with fail
      go_meet
      case rel => exact ⟨c0, rfl, hB, by go_split_ands; assumption⟩
  case rest =>
  obtain ⟨c0, rfl, hB, r5⟩ := hcut
  obtain ⟨w6, rfl⟩ : ∃ w6 : World, w6 = wc := ⟨_, rfl⟩
  have b6 : Below w.heap.size w w6 := b4.trans (r5.mono b4.size)
  have hle : n0 ≤ c0 := HBN.out.le hB (fun _ h => any_tot h)
  have X6 := Lib.hid (X4.out.step r5); have Y6 := Lib.hid (Y4.out.step r5); have RX6 := Lib.hid (RX4.out.below r5 rfl)
  have k6 := X6.out.blk.cell; have l6 := X6.out.blk.lt
  have k7 := Y6.out.blk.cell; have l7 := Y6.out.blk.lt
  have hel := HEL.out
  clear hB X4 Y4 RX4 r5 b4 k4 l4 q0 q1
  go_wp2_with fail
  have hm5 := Y6.out.mach
  rw [hel] at hm5
  refine (cost_any _ (eachM readA m) x x A5 A5 c5 c5 _ hm5 HVI.out RX6.out RX6.out (by omega) (by omega) BX.out BX.out HCI.out).mono ?_; rintro e w7 ⟨c9, rfl, hB2, r7⟩
  have heq : c9 = n0 := hB2.same HBN.out HEQ.out
  subst heq
  clear hB2 k6 k7 l6 l7
  go_wp2_with fail
  go_ret
  exact ⟨rfl, b6.trans (r7.mono b6.size)⟩
end weighProject
end Go.Proofs.Ytphoioejhdjbaaa
