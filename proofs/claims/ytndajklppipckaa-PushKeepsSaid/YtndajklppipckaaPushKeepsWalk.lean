/- The walk of PushKeeps. -/
import Derived.Test.YtndajklppipckaaPush
import Derived.Test.YtndajklppipckaaPull
import Derived.Test.YtndajklppipckaaMBox
import Derived.IntWalk
namespace Go.Proofs.Ytndajklppipckaa
open Go.RowKit

theorem push_num {t : MachL} {d : List Int} (hv : Valid t) (h : Little t 6 4) (hd : DOk d t) {n : Int} (hn : n = if t.start < 0 then 0 else d.getD t.start.toNat 0) : 0 ≤ n ∧ n ≤ 54 := by
  have h1 := hv.s1
  rw [hn]
  split
  · omega
  · have h2 := dok_little hv h hd (q := t.start.toNat) (by omega)
    have h3 := (hd.b t.start.toNat (by omega)).1
    omega
theorem push_keeps {m : MachL} (hv : Valid m) (h0 : 0 ≤ m.start) {d : List Int} (hd : DOk d (trimM m)) {n : Int} (hn : n = if (trimM m).start < 0 then 0 else d.getD (trimM m).start.toNat 0) (x y : List Int) (c : Int) : Tot m x y false c ↔ Tot (pushM d (trimM m)) x y false (c - n) := by
  rw [← trim_tot hv h0]
  by_cases hs : (trimM m).start < 0
  · rw [if_pos hs] at hn
    constructor
    · intro h
      have := (tot_accW.1 h).1
      omega
    · intro h
      have : 0 ≤ (pushM d (trimM m)).start := (tot_accW.1 h).1
      have e : (pushM d (trimM m)).start = (trimM m).start := rfl
      omega
  · rw [if_neg hs] at hn
    rw [hn]
    exact push_tot (trim_valid hv) hd x y c

namespace pushKeeps
set_option maxRecDepth 100000 in
set_option maxHeartbeats 8000000 in
theorem walk {w : World} (v : Value) (r : RawL) (hr : RawArg w v r) (A1 : Option Addr) (N1 k1 : Nat) (xs : List Int) (hx : IntArg w A1 N1 xs) (A2 : Option Addr) (N2 k2 : Nat) (ys : List Int) (hy : IntArg w A2 N2 ys) :
    Calls Try.prog 11 #[v, .slice A1 N1 k1, .slice A2 N2 k2] w fun e w' => e = .returned (.bool true) ∧ Below w.heap.size w w' := by
  have hm : Valid (mkMach r 6 false) := valid_made r 6 false (by omega) (by omega)
  have hsm : Small (mkMach r 6 false) := small_made r 6 false
  have hlm : Little (mkMach r 6 false) 6 4 := made_little r 6 false (by omega)
  have hst0 : 0 ≤ (mkMach r 6 false).start := pick_lo _ _ (by unfold mkN; omega)
  have HMD := Lib.hid (fun W hb => made_any v r 6 false W (hr.below hb) (by omega) (by omega))
  have HWX := Lib.hid (fun W hb => word_any A1 N1 k1 xs 4 W (hx.below hb) (by omega))
  have HWY := Lib.hid (fun W hb => word_any A2 N2 k2 ys 4 W (hy.below hb) (by omega))
  have lx := mkWord_len xs 4; have ly := mkWord_len ys 4
  have BX := Lib.hid (word_b xs 4); have BY := Lib.hid (word_b ys 4)
  obtain ⟨hst, hlen, A, c, rfl, hN⟩ := hr
  generalize mkMach r 6 false = m at *
  generalize mkWord xs 4 = x at *
  generalize mkWord ys 4 = y at *
  have hsz := hm.size; have hst1 := hm.s1
  have HV := Lib.hid hm
  have htv := trim_valid hm
  have hts := trim_small hsm
  have htl := trim_little hlm
  have hsn : m.start.toNat < m.states.length := by omega
  have HTF := Lib.hid (fun hf => trim_some hm hst0 hsn hf)
  have HPP := Lib.hid (fun d hd => push_pack hm hsm (d := d) hd)
  have HPN := Lib.hid (fun d hd n hn => push_num htv htl (d := d) hd (n := n) hn)
  have HPK := Lib.hid (fun d hd n hn c => push_keeps hm hst0 (d := d) hd (n := n) hn x y c)
  have HPO := Lib.hid (fun d hd n h0 h1 => push_ok htv htl (d := d) hd (n := n) h0 h1 lx ly)
  have HPA := Lib.hid (fun W u (h : MachAt W u m) => Push_any u m W h hm (ends_small' htv hts) (fun s h a ha => by have := (hts s h).2 a ha; omega))
  have HC := Lib.hid (hlm.ok 4 4 lx ly (by omega))
  clear hN hst hlen hm hsm htv hts hlm htl hx hy
  generalize trimM m = t at *
  go_enter Try.func11, Try.ntmps11
  go_wp2_with fail
  refine (HMD.out _ (by repeat' (first | exact Below.refl _ _ | assumption | refine Below.drew ?_ | refine Below.alloc ?_ (by first | omega | (simp; done) | (simp; omega)) _ | refine Below.setCell ?_ (by first | omega | (simp; done) | (simp; omega)) _))).mono ?_; rintro e w1 ⟨mv, rfl, o1, r1⟩
  obtain ⟨A3, c3, rfl, s1⟩ := own_open o1
  have b1 : Below w.heap.size w w1 := ((by repeat' (first | exact Below.refl _ _ | assumption | refine Below.drew ?_ | refine Below.alloc ?_ (by first | omega | (simp; done) | (simp; omega)) _ | refine Below.setCell ?_ (by first | omega | (simp; done) | (simp; omega)) _)) : Below w.heap.size w _).trans (r1.mono (by simp))
  have X1 := Lib.hid (MBox.new (c := c3) s1)
  have b1a := b1.alloc b1.size (.cells #[.int .i64 m.start, .slice A3 m.states.length c3] 31)
  clear o1 r1 HMD s1
  go_wp2_with fail
  refine (HPA.out _ _ X1.out.mach).mono ?_; rintro e w2 ⟨xv, n1, rfl, hp, r2⟩
  obtain ⟨d1, o2, hd1, hn1⟩ := hp
  obtain ⟨hxv, hxt, -, -, -, hxl⟩ := HPP.out d1 hd1
  obtain ⟨hn0, hn54⟩ := HPN.out d1 hd1 n1 hn1
  have HKP := Lib.hid (HPK.out d1 hd1 n1 hn1)
  obtain ⟨hcx, hcy, hxf⟩ := HPO.out d1 hd1 n1 hn0 hn54
  generalize pushM d1 t = mx at *
  obtain ⟨A4, c4, rfl, s2⟩ := own_open o2
  have b2 : Below w.heap.size w w2 := b1a.trans (r2.mono b1a.size)
  have Y2 := Lib.hid (MBox.new (c := c4) s2)
  have X2 := Lib.hid ((X1.out.step r2).alloc (.cells #[.int .i64 mx.start, .slice A4 mx.states.length c4] 31))
  have b2a := b2.alloc b2.size (.cells #[.int .i64 mx.start, .slice A4 mx.states.length c4] 31)
  have hpl := pull_len n1 mx
  have HYV := Lib.hid (pull_valid hxv (n := n1) (fun s hs hf => by have := hxf s hs hf; omega))
  have HPT := Lib.hid (fun c => pull_tot (n := n1) (fun s hs hf => by have := hxf s hs hf; omega) x y c)
  have HXV := Lib.hid hxv; have HXT := Lib.hid hxt; have HXL := Lib.hid hxl; have HCX := Lib.hid hcx; have HCY := Lib.hid hcy; have HXF := Lib.hid hxf
  have HPL := Lib.hid hpl
  clear o2 s2 X1 b1a r2 hd1 hn1 hxv hxt hxl HPA HPP HPN HPK HPO hcx hcy hxf hpl
  go_wp2_with fail
  have hpq := Pull_any _ mx n1 _ Y2.out.mach HXV.out hn0 (by omega) (by rw [HXT.out]; intro s hs hf; have := HXF.out s hs hf; omega)
  rw [HXT.out] at hpq
  refine hpq.mono ?_; rintro e w3 ⟨yv, rfl, o3, r3⟩
  generalize pullM n1 mx = my at *
  obtain ⟨A5, c5, rfl, s3⟩ := own_open o3
  have b3 : Below w.heap.size w w3 := b2a.trans (r3.mono b2a.size)
  have Z3 := Lib.hid (MBox.new (c := c5) s3)
  have bz : Below w3.heap.size w3 (w3.alloc (.cells #[.int .i64 my.start, .slice A5 my.states.length c5] 31)) := (Below.refl _ _).alloc (Nat.le_refl _) _
  have X3 := Lib.hid ((X2.out.step r3).step bz); have Y3 := Lib.hid ((Y2.out.step r3).step bz)
  have b3a := b3.trans (bz.mono b3.size)
  clear o3 s3 X2 Y2 b2a r3 hpq
  go_wp2_with fail
  generalize w3.alloc (.cells #[.int .i64 my.start, .slice A5 my.states.length c5] 31) = w3x at *
  refine (HWX.out _ b3a).mono ?_; rintro e w4 ⟨av, rfl, oa, r4⟩
  obtain ⟨A6, c6, rfl, rx⟩ := word_open oa
  have RX := Lib.hid rx
  have b4 : Below w.heap.size w w4 := b3a.trans (r4.mono b3a.size)
  have X4 := Lib.hid (X3.out.step r4); have Y4 := Lib.hid (Y3.out.step r4); have Z4 := Lib.hid (Z3.out.step r4)
  clear oa rx r4 X3 Y3 Z3 b3 b3a HWX bz
  go_wp2_with fail
  refine (HWY.out _ b4).mono ?_; rintro e w5 ⟨bv, rfl, ob, r5⟩
  obtain ⟨A7, c7, rfl, ry⟩ := word_open ob
  have RY := Lib.hid ry
  have b5 : Below w.heap.size w w5 := b4.trans (r5.mono b4.size)
  have X5 := Lib.hid (X4.out.step r5); have Y5 := Lib.hid (Y4.out.step r5); have Z5 := Lib.hid (Z4.out.step r5); have RX5 := Lib.hid (RX.out.below r5 rfl)
  have k5 := X5.out.blk.cell; have l5 := X5.out.blk.lt
  clear ob ry r5 X4 Y4 Z4 RX b4 HWY
  go_wp2_with fail
  clear k5 l5
  refine (cost_any _ m x y A6 A7 c6 c7 _ X5.out.mach HV.out RX5.out RY.out (by omega) (by omega) BX.out BY.out HC.out).mono ?_; rintro e w6 ⟨c0, rfl, hB, r6⟩
  have b6 : Below w.heap.size w w6 := b5.trans (r6.mono b5.size)
  have HB := Lib.hid hB
  have hc0 := hB.nonneg HV.out
  have hc1 : 0 ≤ c0 := hc0.1
  have X6 := X5.out.step r6; have Y6 := Lib.hid (Y5.out.step r6); have Z6 := Lib.hid (Z5.out.step r6); have RX6 := Lib.hid (RX5.out.below r6 rfl); have RY6 := Lib.hid (RY.out.below r6 rfl)
  have k6 := X6.blk.cell; have l6 := X6.blk.lt
  have k7 := Y6.out.blk.cell; have l7 := Y6.out.blk.lt
  have rdX := X6.at_.rdy
  have d0 := X6.at_.c0 m.start.toNat hsn
  have HTX : Hid (m.states[m.start.toNat].final ≠ 1000000001 → 0 < mx.states.length) := Lib.hid (fun h => by rw [HXL.out]; exact HTF.out h)
  obtain ⟨p, hpq⟩ : ∃ p : Nat, m.start = p := ⟨m.start.toNat, by omega⟩
  have hp2 : m.start.toNat = p := by omega
  generalize m.states[m.start.toNat] = s0 at *
  rw [hp2] at d0
  rw [hpq] at k6
  have i0 : (0 : Int) ≤ ↑p := by omega
  have i1 : (↑p : Int) < ↑m.states.length := by omega
  have lA := World.block_lt_of_cell? _ _ d0
  clear hB hc0 X5 Y5 Z5 RX5 RY r6 b5 X6 hpq hp2
  have hcase : ((s0.final == 1000000001) = true ∧ s0.final = 1000000001) ∨ ((s0.final == 1000000001) = false ∧ ((mx.states.length : Int) == 0) = false ∧ ¬ s0.final = 1000000001 ∧ ¬ mx.states.length = 0 ∧ ¬ mx.states = []) := by
    by_cases hf : s0.final = 1000000001
    · left; exact ⟨by simpa using hf, hf⟩
    · right
      have h1 := HTX.out hf
      have h2 : ¬ mx.states = [] := fun e => by rw [e] at h1; simp at h1
      exact ⟨by simpa using hf, by simpa using h2, hf, by omega, h2⟩
  rcases hcase with ⟨e1, e3⟩ | ⟨e1, e2, e3, e4, e5⟩
  all_goals
    go_wp2_with fail
    refine (cost_any _ mx x y A6 A7 c6 c7 _ Y6.out.mach HXV.out RX6.out RY6.out (by omega) (by omega) BX.out BY.out HCX.out).mono ?_; rintro e w7 ⟨cx, rfl, hBx, r7⟩
    have b7 : Below w.heap.size w w7 := b6.trans (r7.mono b6.size)
    have hbb := both_best hn0 (by omega) HB.out hBx HKP.out
    have hcx0 := hBx.nonneg HXV.out
    have hI : INF = 1000000001 := rfl
    have Z7 := Z6.out.step r7; have RX7 := RX6.out.below r7 rfl; have RY7 := RY6.out.below r7 rfl
    have k8 := Z7.blk.cell; have l8 := Z7.blk.lt
    have hbo := fun W => both_any n1 cx W hn0 (by omega) hcx0.1 (by omega)
    rw [hbb] at hbo
    have HBO := Lib.hid hbo; have HZ7 := Lib.hid Z7; have HRX7 := Lib.hid RX7; have HRY7 := Lib.hid RY7
    clear hBx hbb hcx0 hI Z7 RX7 RY7 r7 hbo
    go_wp2_with fail
    refine (HBO.out _).mono ?_; rintro e w8 ⟨rfl, rfl⟩
    go_wp2_with fail
    refine (cost_any _ my x y A6 A7 c6 c7 _ HZ7.out.mach HYV.out HRX7.out HRY7.out (by omega) (by omega) BX.out BY.out HCY.out).mono ?_; rintro e w9 ⟨cy, rfl, hBy, r9⟩
    have b9 : Below w.heap.size w w9 := b7.trans (r9.mono b7.size)
    have hcy0 : cy = c0 := hBy.same HB.out (fun c => by
      rw [HKP.out c, HPT.out (c - n1), Int.sub_add_cancel])
    subst hcy0
    clear hBy
    go_wp2_with fail
    go_ret
    exact ⟨rfl, b9⟩
end pushKeeps
end Go.Proofs.Ytndajklppipckaa
