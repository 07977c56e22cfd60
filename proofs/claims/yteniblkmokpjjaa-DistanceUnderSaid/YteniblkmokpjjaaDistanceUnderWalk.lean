/- The walk of DistanceUnder. -/
import Derived.Test.YteniblkmokpjjaaCostMade
import Derived.Test.YteniblkmokpjjaaDistLaw
import Derived.Test.YteniblkmokpjjaaLeast
import Derived.Test.YteniblkmokpjjaaMBox
import Derived.Deep.RegionHeld3
import Derived.Deep.DeepCutAuto
namespace Go.Proofs.Yteniblkmokpjjaa
open Go.RowKit

/-- a way of a pair of words is a way -/
theorem rw_way {m : MachL} (hv : Valid m) {x y : List Int} {any : Bool} {p : Pl} {c : Int} (h : RW m x y any p c) : Way (fromFirst m) (fromE m) p.1 c := by
  induction h with
  | start h0 => exact from_start hv h0
  | @step p c a q _ ha hn ih =>
    unfold arcsP at ha
    have hq : p.1 < m.states.length := by
      by_cases hlt : p.1 < m.states.length
      · exact hlt
      · rw [List.getElem?_eq_none (by omega)] at ha; simp at ha
    rw [List.getElem?_eq_getElem hq] at ha
    simp only [Option.map_some, Option.getD_some] at ha
    have := from_step hv ih (hq := hq) ha
    unfold nextP at hn
    split at hn
    · cases hn; exact this
    · cases hn
theorem tot_way {m : MachL} (hv : Valid m) {x y : List Int} {any : Bool} {c : Int} (h : Tot m x y any c) : Way (endsFirst m) (endsE m) m.start.toNat c := by
  obtain ⟨p, d, hr, he, hf, rfl⟩ := h
  have h1 := rw_way hv hr
  unfold finalP at hf ⊢
  by_cases hlt : p.1 < m.states.length
  · rw [List.getElem?_eq_getElem hlt] at hf ⊢
    simp only [Option.map_some, Option.getD_some] at hf ⊢
    exact way_join hv h1 _ (ends_start hlt hf)
  · rw [List.getElem?_eq_none (by omega)] at hf; exact absurd rfl hf
theorem under {m : MachL} (hv : Valid m) {x y : List Int} {c D : Int} (hB : Best (Tot m x y false) c)
    (hD : (D = 1000000001 ∧ ∀ c, ¬ Way (endsFirst m) (endsE m) m.start.toNat c) ∨ (0 ≤ D ∧ D ≤ 100000000 ∧ Way (endsFirst m) (endsE m) m.start.toNat D ∧ ∀ c, Way (endsFirst m) (endsE m) m.start.toNat c → D ≤ c)) : D ≤ c := by
  have e : INF = 1000000001 := rfl
  rcases hB with ⟨h1, -⟩ | ⟨h1, -, -⟩
  · rcases hD with h | h <;> omega
  · have := tot_way hv h1
    rcases hD with h | h
    · exact absurd this (h.2 _)
    · exact h.2.2.2 _ this

namespace distanceUnder
set_option maxRecDepth 100000 in
set_option maxHeartbeats 8000000 in
theorem walk {w : World} (v : Value) (r : RawL) (hr : RawArg w v r) (A1 : Option Addr) (n1 k1 : Nat) (xs : List Int) (hx : IntArg w A1 n1 xs) (A2 : Option Addr) (n2 k2 : Nat) (ys : List Int) (hy : IntArg w A2 n2 ys) :
    Calls Try.prog 8 #[v, .slice A1 n1 k1, .slice A2 n2 k2] w fun e w' => e = .returned (.bool true) ∧ Below w.heap.size w w' := by
  have hm : Valid (mkMach r 6 false) := valid_made r 6 false (by omega) (by omega)
  have hsm : Little (mkMach r 6 false) 6 4 := made_little r 6 false (by omega)
  have hsm2 : Small (mkMach r 6 false) := small_made r 6 false
  have hst0 : 0 ≤ (mkMach r 6 false).start := pick_lo _ _ (by unfold mkN; omega)
  have HMD := Lib.hid (fun W hb => made_any v r 6 false W (hr.below hb) (by omega) (by omega))
  have HWX := Lib.hid (fun W hb => word_any A1 n1 k1 xs 5 W (hx.below hb) (by omega))
  have HWY := Lib.hid (fun W hb => word_any A2 n2 k2 ys 5 W (hy.below hb) (by omega))
  have lx := mkWord_len xs 5; have ly := mkWord_len ys 5
  have BX := Lib.hid (word_b xs 5); have BY := Lib.hid (word_b ys 5)
  obtain ⟨hst, hlen, A, c, rfl, hN⟩ := hr
  generalize mkMach r 6 false = m at *
  generalize mkWord xs 5 = x at *
  generalize mkWord ys 5 = y at *
  have hsz := hm.size; have hst1 := hm.s1
  have HV := Lib.hid hm; have HSM := Lib.hid hsm2
  have HC := Lib.hid (hsm.ok 5 5 lx ly (by omega))
  clear hN hst hlen hm hsm hsm2 hx hy
  go_enter Try.func8, Try.ntmps8
  go_wp2_with fail
  refine (HMD.out _ (by repeat' (first | exact Below.refl _ _ | assumption | refine Below.drew ?_ | refine Below.alloc ?_ (by first | omega | (simp; done) | (simp; omega)) _ | refine Below.setCell ?_ (by first | omega | (simp; done) | (simp; omega)) _))).mono ?_; rintro e w1 ⟨mv, rfl, o1, r1⟩
  obtain ⟨A3, c3, rfl, s1⟩ := own_open o1
  have b1 : Below w.heap.size w w1 := ((by repeat' (first | exact Below.refl _ _ | assumption | refine Below.drew ?_ | refine Below.alloc ?_ (by first | omega | (simp; done) | (simp; omega)) _ | refine Below.setCell ?_ (by first | omega | (simp; done) | (simp; omega)) _)) : Below w.heap.size w _).trans (r1.mono (by simp))
  have X1 := Lib.hid (MBox.new (c := c3) s1)
  have b1a := b1.alloc b1.size (.cells #[.int .i64 m.start, .slice A3 m.states.length c3] 27)
  clear o1 r1 HMD s1
  go_wp2_with fail
  refine (Least_any _ m _ X1.out.mach HV.out (ends_small HV.out HSM.out) hst0).mono ?_; rintro e w2 ⟨D, rfl, hD, r2⟩
  have b2 : Below w.heap.size w w2 := b1a.trans (r2.mono b1a.size)
  have X2 := Lib.hid (X1.out.step r2)
  have HD := Lib.hid (dist_small (ends_small' HV.out HSM.out) hD)
  have k2' := X2.out.blk.cell; have l2 := X2.out.blk.lt
  clear r2 hD X1 b1a
  go_wp2_with fail
  refine (From_any _ m _ X2.out.mach HV.out (from_small HV.out HSM.out)).mono ?_; rintro e w3 ⟨sv2, rfl, ⟨⟨bf, dF, rfl, hF, -, hfl, hfd⟩⟩, r3⟩
  have b3 : Below w.heap.size w w3 := b2.trans (r3.mono b2.size)
  have X3 := Lib.hid (X2.out.step r3)
  have k3 := X3.out.blk.cell; have l3 := X3.out.blk.lt
  clear r3 hF hfl hfd X2 k2' l2
  go_wp2_with fail
  have q0 : w3.cell? ⟨w1.heap.size, 0, none⟩ = some (.int .i64 m.start) := by simpa using k3 0
  have q1 : w3.cell? ⟨w1.heap.size, 1, none⟩ = some (.slice A3 m.states.length c3) := by simpa using k3 1
  clear k3
  go_upto_region 4 with fail
  go_region_held3 (fun w' => w'.cell? ⟨w1.heap.size, 0, none⟩ = some (.int .i64 m.start) ∧ w'.cell? ⟨w1.heap.size, 1, none⟩ = some (.slice A3 m.states.length c3) ∧ Below w3.heap.size w3 w') (first | (have q : Below w3.heap.size w3 w3.drew := (Below.refl _ _).drew; exact ⟨cellB q q0, cellB q q1, q⟩) | (go_split_ands; have q := Below.step (a := w3) (by assumption) bn; exact ⟨cellB q q0, cellB q q1, q⟩)) (first | (go_at_call 29; (with_reducible show Calls Try.prog 29 #[.slice A1 n1 k1, _] _ _); go_split_ands; refine (HWX.out _ (b3.trans (Below.mono (by assumption) b3.size))).mono ?_; rintro e wn ⟨xv, rfl, ox, bn⟩; obtain ⟨A5, c5, rfl, rx⟩ := word_open ox) | (go_at_call 29; go_split_ands; refine (HWY.out _ (b3.trans (Below.mono (by assumption) b3.size))).mono ?_; rintro e wn ⟨yv, rfl, oy, bn⟩; obtain ⟨A6, c6, rfl, ry⟩ := word_open oy; (try have rx2 := Rd.below (show Rd _ _ x.length 1 (icells x) by assumption) bn rfl)) | (go_at_call 28; go_split_ands; refine (cost_any _ m x y _ _ _ _ _ (X3.out.step (by assumption)).mach HV.out (by assumption) (by assumption) (by omega) (by omega) BX.out BY.out HC.out).mono ?_; rintro e wn2 ⟨c0, rfl, hB, bn⟩))
  have bq : Below w3.heap.size w3 wn2 := by go_split_ands; assumption
  have b6 : Below w.heap.size w wn2 := b3.trans (bq.mono b3.size)
  have X6 := X3.out.step bq
  have k6 := X6.blk.cell; have l6 := X6.blk.lt
  have hc0 := hB.nonneg HV.out
  have hc1 : c0 ≤ 1000000001 := hc0.2
  have hc2 := hc0.1
  have hle : D ≤ c0 := under HV.out hB HD.out
  have hD0 : 0 ≤ D := by rcases HD.out with h | h <;> omega
  clear hB X6 bq hc0 q0 q1
  by_cases hDI : D = 1000000001
  · subst hDI
    clear hD0 HD
    go_wp2_with fail
    go_ret
    exact ⟨rfl, b6⟩
  · have hD1 : D ≤ 100000000 := by rcases HD.out with h | h <;> omega
    have e1 : (D == 1000000001) = false := by simp [hDI]
    have e2 : decide (1000000001 ≤ D) = false := by simp; omega
    have E := Lib.hid (show (decide (1000000001 ≤ D) == (D == 1000000001)) = true by rw [e1, e2]; rfl)
    clear HD e1 e2
    go_wp2_with fail
    go_ret
    rw [E.out]
    exact ⟨rfl, b6⟩
end distanceUnder
end Go.Proofs.Yteniblkmokpjjaa
