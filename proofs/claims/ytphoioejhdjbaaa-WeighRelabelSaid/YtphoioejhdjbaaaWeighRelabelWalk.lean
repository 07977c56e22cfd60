/- The walk of WeighRelabel. -/
import Derived.Test.YtphoioejhdjbaaaCostMade
import Derived.Test.YtphoioejhdjbaaaEachPlain
import Derived.Test.YtphoioejhdjbaaaRelabel2
import Derived.IntWalk
import Derived.LoopTactic
namespace Go.Proofs.Ytphoioejhdjbaaa
open Go.RowKit

def sw (l : Int) : Int := if l = 1 then 2 else if l = 2 then 1 else l
theorem sw_sw (l : Int) : sw (sw l) = l := by unfold sw; split <;> (try split) <;> (try split) <;> omega
theorem sw_zero (l : Int) : sw l = 0 ↔ l = 0 := by unfold sw; split <;> (try split) <;> omega
theorem sw_inj {a b : Int} (h : sw a = sw b) : a = b := by rw [← sw_sw a, h, sw_sw]
def swA (a : ArcL) : ArcL := ⟨sw a.inn, a.out, a.wt, a.to⟩
theorem relab_sw (a : ArcL) : relabA [(1, 2), (2, 1)] [] a = swA a := by
  unfold relabA swA sw
  simp only [assoc, Option.getD_none]
  by_cases h1 : a.inn = 1
  · simp [h1]
  · by_cases h2 : a.inn = 2
    · simp [h2]
    · simp [h1, h2]
theorem sw_at (p : Nat) (l : Int) : stepAt p (sw l) = stepAt p l := by
  unfold stepAt
  by_cases h : l = 0
  · rw [if_pos h, if_pos ((sw_zero l).2 h)]
  · rw [if_neg h, if_neg (fun e => h ((sw_zero l).1 e))]
theorem sw_ok (x : List Int) (p : Nat) (l : Int) : stepOk (x.map sw) p (sw l) = stepOk x p l := by
  unfold stepOk
  by_cases h : l = 0
  · rw [if_pos h, if_pos ((sw_zero l).2 h)]
  · rw [if_neg h, if_neg (fun e => h ((sw_zero l).1 e))]
    unfold hitB
    rw [List.getElem?_map]
    cases x[p]? with
    | none => rfl
    | some z =>
      simp only [Option.map_some, Option.some.injEq]
      by_cases e : z = l
      · simp [e]
      · simp [e]; exact fun h => e (sw_inj h)
theorem sw_rw {m : MachL} {x y : List Int} {p : Pl} {c : Int} (h : RW m x y false p c) : RW (eachM swA m) (x.map sw) y false p c := by
  induction h with
  | start h0 => exact RW.start (m := eachM swA m) h0
  | @step p c a q _ ha hn ih =>
    refine RW.step (a := swA a) ih (by rw [arcsP_each]; exact List.mem_map_of_mem ha) ?_
    unfold nextP at hn ⊢
    simp only [swA, sw_ok, sw_at] at hn ⊢
    exact hn
theorem sw_tot1 {m : MachL} {x y : List Int} {c : Int} (h : Tot m x y false c) : Tot (eachM swA m) (x.map sw) y false c := by
  obtain ⟨p, d, hr, he, hf, rfl⟩ := h
  refine ⟨p, d, sw_rw hr, ?_, by rw [finalP_each]; exact hf, by rw [finalP_each]⟩
  unfold endsP at he ⊢
  rw [List.length_map]; exact he
theorem sw_tot (m : MachL) (x y : List Int) (c : Int) : Tot (eachM swA m) (x.map sw) y false c ↔ Tot m x y false c := by
  refine ⟨fun h => ?_, sw_tot1⟩
  have h2 := sw_tot1 h
  have e : eachM swA (eachM swA m) = m := by
    rw [each_each]
    have : (fun a => swA (swA a)) = fun a : ArcL => a := by funext a; simp [swA, sw_sw]
    rw [this]; exact each_id m
  have e2 : (x.map sw).map sw = x := by
    rw [List.map_map]
    have : sw ∘ sw = id := by funext a; simp [sw_sw]
    rw [this, List.map_id]
  rw [e, e2] at h2; exact h2
theorem sw_valid (n : Int) (a : ArcL) (h : ValidArc n a) : ValidArc n (swA a) := by
  have h1 := h.i0; have h2 := h.i1
  exact ⟨by simp only [swA, sw]; split <;> (try split) <;> omega, by simp only [swA, sw]; split <;> (try split) <;> omega, h.o0, h.o1, h.w0, h.w1, h.t0, h.t1⟩
theorem sw_word {x : List Int} (h : ∀ a ∈ x, 1 ≤ a ∧ a ≤ 2) : x.map (fun a => 3 - a) = x.map sw := by
  apply List.map_congr_left
  intro a ha
  have := h a ha
  unfold sw
  split
  · omega
  · split <;> omega

namespace weighRelabel
set_option maxRecDepth 100000 in
set_option maxHeartbeats 8000000 in
theorem walk {w : World} (v : Value) (r : RawL) (hr : RawArg w v r) (A1 : Option Addr) (n1 k1 : Nat) (xs : List Int) (hx : IntArg w A1 n1 xs) (A2 : Option Addr) (n2 k2 : Nat) (ys : List Int) (hy : IntArg w A2 n2 ys) :
    Calls Try.prog 14 #[v, .slice A1 n1 k1, .slice A2 n2 k2] w fun e w' => e = .returned (.bool true) ∧ Below w.heap.size w w' := by
  have hm : Valid (mkMach r 5 false) := valid_made r 5 false (by omega) (by omega)
  have hsm : Little (mkMach r 5 false) 5 4 := made_little r 5 false (by omega)
  have HMD := Lib.hid (fun W hb => made_any v r 5 false W (hr.below hb) (by omega) (by omega))
  have HWX := Lib.hid (fun W hb => word_any A1 n1 k1 xs 4 W (hx.below hb) (by omega))
  have HWY := Lib.hid (fun W hb => word_any A2 n2 k2 ys 4 W (hy.below hb) (by omega))
  have lx := mkWord_len xs 4; have ly := mkWord_len ys 4
  have BX2 := Lib.hid (mkWord_b xs 4)
  have BX := Lib.hid (word_b xs 4); have BY := Lib.hid (word_b ys 4)
  obtain ⟨hst, hlen, A, c, rfl, hN⟩ := hr
  generalize mkMach r 5 false = m at *
  generalize mkWord xs 4 = x at *
  generalize mkWord ys 4 = y at *
  have HV := Lib.hid hm; have HVI := Lib.hid (eachM_valid sw_valid hm)
  have HC := Lib.hid (hsm.ok 4 4 lx ly (by omega))
  have HCI := Lib.hid ((each_little (F := swA) (fun _ => rfl) hsm).ok 4 4 lx ly (by omega))
  have HEQ := Lib.hid (sw_tot m x y)
  have hel : (eachM swA m).states.length = m.states.length := by simp [eachM]
  have HEL := Lib.hid hel
  have BT : Hid (∀ a ∈ x.map (fun a => 3 - a), 1 ≤ a ∧ a ≤ 1000) := Lib.hid (fun a ha => by obtain ⟨z, hz, rfl⟩ := List.mem_map.1 ha; have := BX2.out z hz; omega)
  have HSW := Lib.hid (sw_word BX2.out)
  clear hN hst hlen hm hsm hx hy hel
  go_enter Try.func14, Try.ntmps14
  go_wp2_with fail
  refine (HMD.out _ (by repeat' (first | exact Below.refl _ _ | assumption | refine Below.drew ?_ | refine Below.alloc ?_ (by first | omega | (simp; done) | (simp; omega)) _ | refine Below.setCell ?_ (by first | omega | (simp; done) | (simp; omega)) _))).mono ?_; rintro e w1 ⟨mv, rfl, o1, r1⟩
  obtain ⟨A3, c3, rfl, s1⟩ := own_open o1
  have b1 : Below w.heap.size w w1 := ((by repeat' (first | exact Below.refl _ _ | assumption | refine Below.drew ?_ | refine Below.alloc ?_ (by first | omega | (simp; done) | (simp; omega)) _ | refine Below.setCell ?_ (by first | omega | (simp; done) | (simp; omega)) _)) : Below w.heap.size w _).trans (r1.mono (by simp))
  have X1 := Lib.hid (MBox.new (c := c3) s1)
  have b1a := b1.alloc b1.size (.cells #[.int .i64 m.start, .slice A3 m.states.length c3] 27)
  clear o1 r1 HMD s1
  go_wp2_with fail
  have RC : Rd ((w1.alloc (.cells #[.int .i64 m.start, .slice A3 m.states.length c3] 27)).alloc (.cells #[.int .i64 1, .int .i64 2, .int .i64 2, .int .i64 1] 67)) (some ⟨w1.heap.size + 1, 0, none⟩) 2 2 ([((1 : Int), (2 : Int)), (2, 1)].flatMap changeCells) := (Blk.new' (by simp)).rd (by rfl)
  have X1b := Lib.hid (X1.out.alloc (.cells #[.int .i64 1, .int .i64 2, .int .i64 2, .int .i64 1] 67))
  have b1b := b1a.alloc b1a.size (.cells #[.int .i64 1, .int .i64 2, .int .i64 2, .int .i64 1] 67)
  have HRC := Lib.hid RC
  clear RC
  refine (Relabel_any _ m (some ⟨w1.heap.size + 1, 0, none⟩) none 2 0 [(1, 2), (2, 1)] [] _ X1b.out.mach HV.out HRC.out (Rd.nil _ _ _) (by simp) (by simp) (by simp) (by simp) (by simp) (by simp)).mono ?_; rintro e w2 ⟨mv2, rfl, o2, r2⟩
  rw [show relabA [(1, 2), (2, 1)] [] = swA from funext relab_sw] at o2
  obtain ⟨A4, c4, rfl, s2⟩ := own_open o2
  have b2 : Below w.heap.size w w2 := b1b.trans (r2.mono b1b.size)
  have Y2 := Lib.hid (MBox.new (c := c4) s2)
  have b2a := b2.alloc b2.size (.cells #[.int .i64 (eachM swA m).start, .slice A4 (eachM swA m).states.length c4] 27)
  have X2 := Lib.hid ((X1b.out.step r2).alloc (.cells #[.int .i64 (eachM swA m).start, .slice A4 (eachM swA m).states.length c4] 27))
  clear o2 s2 X1 X1b b1a b1b r2 b1 HRC
  go_wp2_with fail
  refine (HWX.out _ b2a).mono ?_; rintro e w3 ⟨xv, rfl, ox, r3⟩
  obtain ⟨A5, c5, rfl, rx⟩ := word_open ox
  have RX := Lib.hid rx
  have b3 : Below w.heap.size w w3 := b2a.trans (r3.mono b2a.size)
  have X3 := Lib.hid (X2.out.step r3); have Y3 := Lib.hid (Y2.out.step r3)
  clear ox rx r3 X2 Y2 b2a b2 HWX
  go_wp2_with fail
  refine (HWY.out _ b3).mono ?_; rintro e w4 ⟨yv, rfl, oy, r4⟩
  obtain ⟨A6, c6, rfl, ry⟩ := word_open oy
  have RY := Lib.hid ry
  have b4 : Below w.heap.size w w4 := b3.trans (r4.mono b3.size)
  have X4 := Lib.hid (X3.out.step r4); have Y4 := Lib.hid (Y3.out.step r4); have RX4 := Lib.hid (RX.out.below r4 rfl)
  have k4 := X4.out.blk.cell; have l4 := X4.out.blk.lt
  clear oy ry r4 X3 Y3 RX b3 HWY
  go_wp2_with fail
  clear k4 l4
  refine (cost_any _ m x y A5 A6 c5 c6 _ X4.out.mach HV.out RX4.out RY.out (by omega) (by omega) BX.out BY.out HC.out).mono ?_; rintro e w5 ⟨c0, rfl, hB, r5⟩
  have b5 : Below w.heap.size w w5 := b4.trans (r5.mono b4.size)
  have HB := Lib.hid hB
  have hc0 := (hB.nonneg HV.out).1
  have X5 := Lib.hid (X4.out.step r5); have Y5 := Lib.hid (Y4.out.step r5); have RX5 := Lib.hid (RX4.out.below r5 rfl); have RY5 := Lib.hid (RY.out.below r5 rfl)
  have k5 := X5.out.blk.cell; have l5 := X5.out.blk.lt
  have k6 := Y5.out.blk.cell; have l6 := Y5.out.blk.lt
  have hel := HEL.out
  clear hB X4 Y4 RX4 RY r5 b4
  have hm5 := Y5.out.mach
  rw [hel] at hm5 k6
  have HM5 := Lib.hid hm5
  clear hm5 k5 k6 l5 l6
  go_wp2_with fail
  have rx := RX5.out.rdy
  obtain ⟨w6, rfl⟩ : ∃ w6 : World, w6 = w5 := ⟨_, rfl⟩
  go_loopw [14, 15] (fun tv iv wr => ∃ k : Nat, k ≤ x.length ∧ iv = .int .i64 k ∧ wr.ownsRow w6.heap.size 3 1 tv k (icells ((x.take k).map fun a => 3 - a)) ∧ Below w6.heap.size w6 wr) (fun _ iv _ => x.length - (intOf iv).toNat)
  case atStart => exact ⟨0, by omega, rfl, World.ownsRow_nil _ _ _ _, Below.refl _ _⟩
  case round =>
    obtain ⟨k, hk, rfl, hown, bel⟩ := hrel
    by_cases hlt : k < x.length
    · have hcell := rdi_cell (RX5.out.below bel rfl) k hlt
      have hxb := BX2.out _ (List.getElem_mem hlt)
      have hs : (x.take (k + 1)).map (fun a => 3 - a) = (x.take k).map (fun a => 3 - a) ++ [3 - x[k]] := by rw [List.take_succ_eq_append_getElem hlt, List.map_append]; rfl
      generalize x[k] = z at *
      have HS := Lib.hid hs
      obtain ⟨z0, z1⟩ := hxb
      have hwr : IntKind.i64.wrap (3 - z) = 3 - z := IntWalk.i64_in _ (by omega)
      have g0 : (0 : Int) ≤ (k : Int) := by omega
      have g1 : (k : Int) < (x.length : Int) := by omega
      have hsz := bel.size
      clear hs
      go_wp2_with (first
        | (at_builtin; refine wpList_app1 rfl _ _ rfl eltInt w6.heap.size _ k _ rfl wr hown _ rfl wr.heap.size rfl rfl rfl (by simp [Value.oneCell']) (by omega) (by omega) hsz ?_; intro g cap w7 hown1 hg1 hat hlt))
      have bel1 := below_app bel hown hg1 (Nat.le_refl _) hsz
      clear hg1 bel hown hcell
      go_roundw
      case rel => exact ⟨k + 1, by omega, by go_num, by rw [HS.out]; simpa using hown1, bel1⟩
      case measure => simp [intOf]; omega
    · obtain rfl : k = x.length := by omega
      rw [List.take_length] at hown
      obtain ⟨A9, c9, rfl, -⟩ := own_form hown
      have RT := Lib.hid (Rd.of_own hown)
      have X8 := Lib.hid (X5.out.step bel); have Y8 := Lib.hid (Y5.out.step bel); have RY8 := Lib.hid (RY5.out.below bel rfl)
      have HM8 := Lib.hid (HM5.out.below bel)
      have k7 := X8.out.blk.cell; have l7 := X8.out.blk.lt
      have k8 := Y8.out.blk.cell; have l8 := Y8.out.blk.lt
      rw [HEL.out] at k8
      have b8 := b5.trans (bel.mono b5.size)
      clear hown bel
      go_wp2_with fail
      refine (cost_n _ (eachM swA m) (x.map fun a => 3 - a) y A9 A6 x.length y.length _ _ _ (by simp) rfl HM8.out HVI.out RT.out RY8.out (by omega) (by omega) BT.out BY.out HCI.out).mono ?_; rintro e w9 ⟨c10, rfl, hB2, r9⟩
      rw [HSW.out] at hB2
      obtain rfl : c10 = c0 := hB2.same HB.out HEQ.out
      clear hB2 k7 k8 l7 l8
      go_wp2_with fail
      go_ret
      exact ⟨rfl, b8.trans (r9.mono b8.size)⟩
end weighRelabel
end Go.Proofs.Ytphoioejhdjbaaa
