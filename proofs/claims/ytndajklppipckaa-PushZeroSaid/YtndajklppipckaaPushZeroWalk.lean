/- The walk of PushZero. -/
import Derived.Test.YtndajklppipckaaPush
import Derived.Test.YtndajklppipckaaLeast
import Derived.Test.YtndajklppipckaaAlike
import Derived.Test.YtndajklppipckaaMBox
import Derived.Test.YtndajklppipckaaMade
import Derived.IntWalk
namespace Go.Proofs.Ytndajklppipckaa
open Go.RowKit

namespace pushZero
set_option maxRecDepth 100000 in
set_option maxHeartbeats 8000000 in
theorem walk {w : World} (v : Value) (r : RawL) (hr : RawArg w v r) :
    Calls Try.prog 10 #[v] w fun e w' => e = .returned (.bool true) ∧ Below w.heap.size w w' := by
  have hm : Valid (mkMach r 6 false) := valid_made r 6 false (by omega) (by omega)
  have hsm : Small (mkMach r 6 false) := small_made r 6 false
  have hst0 : 0 ≤ (mkMach r 6 false).start := pick_lo _ _ (by unfold mkN; omega)
  have HMD := Lib.hid (fun W hb => made_any v r 6 false W (hr.below hb) (by omega) (by omega))
  obtain ⟨hst, hlen, A, c, rfl, hN⟩ := hr
  generalize mkMach r 6 false = m at *
  have hsz := hm.size; have hst1 := hm.s1
  have HV := Lib.hid hm; have HSM := Lib.hid hsm
  have htv := trim_valid hm
  have hts := trim_small hsm
  have HTS := Lib.hid hts; have HTV := Lib.hid htv
  have hsn : m.start.toNat < m.states.length := by omega
  have HTF := Lib.hid (fun hf => trim_some hm hst0 hsn hf)
  have HTL := Lib.hid (fun w d hd hw => trim_least hm hst0 (w := w) (d := d) hd hw)
  have HPP := Lib.hid (fun d hd => push_pack hm hsm (d := d) hd)
  have HPA := Lib.hid (fun W u (h : MachAt W u m) => Push_any u m W h hm (ends_small' htv hts) (fun s h a ha => by have := (hts s h).2 a ha; omega))
  have htz := htv.size
  clear hN hst hlen hm hsm htv hts
  generalize trimM m = t at *
  go_enter Try.func10, Try.ntmps10
  go_wp2_with fail
  refine (HMD.out _ (by repeat' (first | exact Below.refl _ _ | assumption | refine Below.drew ?_ | refine Below.alloc ?_ (by first | omega | (simp; done) | (simp; omega)) _ | refine Below.setCell ?_ (by first | omega | (simp; done) | (simp; omega)) _))).mono ?_; rintro e w1 ⟨mv, rfl, o1, r1⟩
  obtain ⟨A1, c1, rfl, s1⟩ := own_open o1
  have b1 : Below w.heap.size w w1 := ((by repeat' (first | exact Below.refl _ _ | assumption | refine Below.drew ?_ | refine Below.alloc ?_ (by first | omega | (simp; done) | (simp; omega)) _ | refine Below.setCell ?_ (by first | omega | (simp; done) | (simp; omega)) _)) : Below w.heap.size w _).trans (r1.mono (by simp))
  have X1 := Lib.hid (MBox.new (c := c1) s1)
  have b1a := b1.alloc b1.size (.cells #[.int .i64 m.start, .slice A1 m.states.length c1] 31)
  clear o1 r1 HMD s1
  go_wp2_with fail
  refine (HPA.out _ _ X1.out.mach).mono ?_; rintro e w2 ⟨xv, n1, rfl, hp, r2⟩
  obtain ⟨d1, o2, hd1, hn1⟩ := hp
  obtain ⟨hxv, hxt, hxz, hxw, hxs, hxl⟩ := HPP.out d1 hd1
  generalize pushM d1 t = x at *
  obtain ⟨A2, c2, rfl, s2⟩ := own_open o2
  have b2 : Below w.heap.size w w2 := b1a.trans (r2.mono b1a.size)
  have Y2 := Lib.hid (MBox.new (c := c2) s2)
  have X2 := Lib.hid ((X1.out.step r2).alloc (.cells #[.int .i64 x.start, .slice A2 x.states.length c2] 31))
  have b2a := b2.alloc b2.size (.cells #[.int .i64 x.start, .slice A2 x.states.length c2] 31)
  have HD1 := Lib.hid hd1; have HN1 := Lib.hid hn1
  have HXV := Lib.hid hxv; have HXT := Lib.hid hxt; have HXZ := Lib.hid hxz; have HXW := Lib.hid hxw; have HXS := Lib.hid hxs; have HXL := Lib.hid hxl
  have hlt1 := fun q c (h : Way (endsFirst x) (endsE x) q c) => way_lt hxv h
  have HSX : Hid (∀ q c, Way (endsFirst x) (endsE x) q c → ∃ c', Way (endsFirst x) (endsE x) q c' ∧ c' ≤ 100000000) := Lib.hid (fun q c h => ⟨0, hxz q (hlt1 q c h), by omega⟩)
  have HRB : Hid (∀ i, i < x.states.length → RB x i) := Lib.hid (fun i hi => way_RB hxv (hxz i hi))
  have hxz60 := hxv.size
  have HX1 := Lib.hid hxv.s1
  clear o2 s2 X1 b1a r2 hd1 hn1 hxv hxt hxz hxw hxs hxl HPA HPP hlt1
  go_wp2_with fail
  refine (Ends_any _ x _ Y2.out.mach HXV.out (fun q c h => by obtain ⟨c', h1, h2⟩ := HSX.out q c h; exact ⟨c', h1, by omega⟩)).mono ?_
  rintro e w3 ⟨sv3, rfl, ⟨⟨bf, dL, rfl, hF, -, hfl, hfd⟩⟩, r3⟩
  have b3 : Below w.heap.size w w3 := b2a.trans (r3.mono b2a.size)
  have X3 := Lib.hid (X2.out.step r3); have Y3 := Lib.hid (Y2.out.step r3)
  have HF3 := Lib.hid hF; have HFL := Lib.hid hfl
  have hdl : DOk dL x := dok_of HXV.out HRB.out hfl (fun q hq => dist_small HSX.out (hfd q hq))
  have HL0 := Lib.hid (zero_of HXZ.out hdl)
  have k3 := Y3.out.blk.cell; have l3 := Y3.out.blk.lt
  clear r3 hF hfl hfd X2 Y2 b2a hdl
  go_wp2_with fail
  clear k3 l3
  have hpx := Push_any _ x _ Y3.out.mach HXV.out (by rw [HXT.out]; exact HSX.out) (by rw [HXT.out]; exact HXW.out)
  rw [HXT.out] at hpx
  refine hpx.mono ?_; rintro e w4 ⟨yv, n2, rfl, ⟨d2, o4, hd2, hn2⟩, r4⟩
  have hz2 := zero_of HXZ.out hd2
  rw [push_none hz2] at o4
  have hn20 : n2 = 0 := by rw [hn2, hz2]; split <;> rfl
  clear hd2 hn2 hz2 hpx
  subst hn20
  obtain ⟨A4, c4, rfl, s4⟩ := own_open o4
  have b4 : Below w.heap.size w w4 := b3.trans (r4.mono b3.size)
  have bz : Below w4.heap.size w4 (w4.alloc (.cells #[.int .i64 x.start, .slice A4 x.states.length c4] 31)) := (Below.refl _ _).alloc (Nat.le_refl _) _
  have Z4 := Lib.hid (MBox.new (c := c4) s4)
  have X4 := Lib.hid ((X3.out.step r4).step bz); have Y4 := Lib.hid ((Y3.out.step r4).step bz); have HF4 := Lib.hid ((HF3.out.step r4).step bz)
  have b4a := b4.trans (bz.mono b4.size)
  have k4 := (X3.out.step r4).blk.cell; have l4 := (X3.out.step r4).blk.lt
  clear o4 s4 X3 Y3 HF3 r4 b3
  go_wp2_with fail
  clear k4 l4
  generalize w4.alloc (.cells #[.int .i64 x.start, .slice A4 x.states.length c4] 31) = w5 at *
  refine (Least_any _ m _ X4.out.mach HV.out (ends_small HV.out HSM.out) hst0).mono ?_; rintro e w6 ⟨D, rfl, hD, r6⟩
  have b6 : Below w.heap.size w w6 := b4a.trans (r6.mono b4a.size)
  have hDD := HTL.out D d1 HD1.out (dist_small (ends_small' HV.out HSM.out) hD)
  have X6 := Lib.hid (X4.out.step r6); have Y6 := Lib.hid (Y4.out.step r6); have Z6 := Lib.hid (Z4.out.step r6); have HF6 := Lib.hid (HF4.out.step r6)
  have HDD : Hid ((D = 1000000001 ∧ x.states.length = 0 ∧ n1 = 0) ∨ (D ≠ 1000000001 ∧ n1 = D ∧ 0 ≤ x.start)) := Lib.hid (by
    rw [HXL.out, HXS.out, HN1.out]
    rcases hDD with ⟨h1, h2, h3⟩ | ⟨h1, h2, h3, h4, h5⟩
    · exact .inl ⟨h1, h2, if_pos h3⟩
    · exact .inr ⟨by omega, by rw [if_neg (by omega)]; exact h5.symm, h3⟩)
  have k6 := Y6.out.blk.cell; have l6 := Y6.out.blk.lt; have k7 := Z6.out.blk.cell; have l7 := Z6.out.blk.lt
  clear hD hDD r6 X4 Y4 Z4 HF4 b4a HTL HN1 HD1
  go_wp2_with fail
  refine (alike_yes _ _ x _ Y6.out.mach Z6.out.mach hxz60 (fun s hs => by have h3 := HXV.out.arcs; have := arcs_le_of x.states s hs; omega)).mono ?_; rintro e w7 ⟨rfl, r7⟩
  have b7 : Below w.heap.size w w7 := b6.trans (r7.mono b6.size)
  have X7 := X6.out.step r7; have Y7 := Y6.out.step r7
  have HF7 := Lib.hid (HF6.out.step r7)
  have k8 := X7.blk.cell; have l8 := X7.blk.lt; have k9 := Y7.blk.cell; have l9 := Y7.blk.lt
  have rdX := X7.at_.rdy
  have d0 := X7.at_.c0 m.start.toNat hsn
  have HTX : Hid (m.states[m.start.toNat].final ≠ 1000000001 → 0 < x.states.length) := Lib.hid (fun h => by rw [HXL.out]; exact HTF.out h)
  obtain ⟨p, hpq⟩ : ∃ p : Nat, m.start = p := ⟨m.start.toNat, by omega⟩
  have hp2 : m.start.toNat = p := by omega
  generalize m.states[m.start.toNat] = s0 at *
  rw [hp2] at d0
  rw [hpq] at k8
  have i0 : (0 : Int) ≤ ↑p := by omega
  have i1 : (↑p : Int) < ↑m.states.length := by omega
  have lA := World.block_lt_of_cell? _ _ d0
  have HK9 := Lib.hid Y7.blk.cell; have HL9 := Lib.hid Y7.blk.lt
  clear k6 l6 k7 l7 X6 Y6 Z6 HF6 X7 Y7 r7 b6 hpq hp2 HSX HXZ HRB HXL HX1 HXT HXW
  generalize x.states.length = nx at *
  have hcase : ((s0.final == 1000000001) = true ∧ s0.final = 1000000001) ∨ ((s0.final == 1000000001) = false ∧ ((nx : Int) == 0) = false ∧ ¬ s0.final = 1000000001 ∧ ¬ nx = 0) := by
    by_cases hf : s0.final = 1000000001
    · left; exact ⟨by simpa using hf, hf⟩
    · right
      have h1 := HTX.out hf
      exact ⟨by simpa using hf, by simp; omega, hf, by omega⟩
  rcases hcase with ⟨e1, e3⟩ | ⟨e1, e2, e3, e4⟩
  all_goals
    go_wp2_with fail
    clear d0 k8 l8 k9 l9
    obtain ⟨w8, rfl⟩ : ∃ w8 : World, w8 = w7 := ⟨_, rfl⟩
    go_loopw [14] (fun iv wr => ∃ q : Nat, q ≤ nx ∧ iv = .int .i64 q ∧ wr = w8) (fun iv _ => nx - (intOf iv).toNat)
    case atStart => exact ⟨0, by omega, rfl, rfl⟩
    case round =>
      obtain ⟨q, hq, rfl, rfl⟩ := hrel
      have j0 : (0 : Int) ≤ ↑q := by omega
      by_cases hlt : q < nx
      · have j1 : (↑q : Int) < ↑nx := by omega
        have kl := HF7.out.cell q
        rw [icellsA_get _ _ (by rw [HFL.out]; exact hlt), HL0.out] at kl
        have ll := HF7.out.lt
        go_wp2_with fail
        go_roundw
        case rel => exact ⟨q + 1, by omega, by go_num, by trivial⟩
        case measure => simp [intOf]; omega
      · have hqn : nx = q := by omega
        subst hqn
        have k9 := HK9.out; have l9 := HL9.out
        rcases HDD.out with ⟨h1, h2, h3⟩ | ⟨h1, h2, h3⟩
        · have h2' : ((nx : Int) == 0) = true := by rw [h2]; rfl
          have h2'' : ((0 : Nat) : Int) = 0 := rfl
          subst h3; subst h1
          rw [h2] at k9
          clear h2
          go_wp2_with fail
          go_ret; exact ⟨rfl, b7⟩
        · have h4 : (D == 1000000001) = false := by simpa using h1
          subst h2
          go_wp2_with fail
          go_ret; exact ⟨rfl, b7⟩
end pushZero
end Go.Proofs.Ytndajklppipckaa
