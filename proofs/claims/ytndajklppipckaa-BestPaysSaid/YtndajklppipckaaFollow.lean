/- best.Follow. -/
import Derived.Test.YtndajklppipckaaBestPath
import Derived.Test.YtndajklppipckaaCheck
import Derived.Test.YtndajklppipckaaMBox
import Derived.Test.YtndajklppipckaaIntArg
import Derived.LoopTactic
import Derived.IntWalk
import Derived.Deep.DeepCutAuto
namespace Go.Proofs.Ytndajklppipckaa
open Go.RowKit

/-- two rows that lie apart -/
def Ap2 (a b : Value) : Prop := ∀ k, a.ownBlock = some k → b.ownBlock ≠ some k
theorem Ap2.symm {a b : Value} (h : Ap2 a b) : Ap2 b a := fun k h1 h2 => h k h2 h1
theorem Ap2.app {w : World} {B n : Nat} {a b : Value} {xs : List Value} (h : Ap2 a b) (hb : w.ownsRow B 3 1 b n xs) {g k c : Nat} (hg : a.ownBlock = some g ∨ w.heap.size < g) : Ap2 (.slice (some ⟨g, 0, none⟩) k c) b := fun j h1 h2 => by
  simp [Value.ownBlock] at h1
  subst h1
  rcases hg with hg | hg
  · exact h _ hg h2
  · have := hb.lt _ h2; omega
theorem Ap2.ne {a b : Value} (h : Ap2 a b) : b.ownBlock = none ∨ b.ownBlock ≠ a.ownBlock := by
  cases hb : b.ownBlock with
  | none => exact .inl rfl
  | some k => exact .inr fun e => h k e.symm hb
abbrev Ints (w : World) (B : Nat) (v : Value) (l : List Int) : Prop := w.ownsRow B 3 1 v l.length (icells l)
theorem Ints.snoc {w : World} {B g cap : Nat} {l : List Int} {i : Int} (h : w.ownsRow B 3 1 (.slice (some ⟨g, 0, none⟩) (l.length + 1) cap) (l.length + 1) (icells l ++ (#[.int .i64 i] : Array Value).toList)) : Ints w B (.slice (some ⟨g, 0, none⟩) (l.length + 1) cap) (l ++ [i]) := by
  have e : icells (l ++ [i]) = icells l ++ [.int .i64 i] := by simp [icells]
  unfold Ints
  rw [e, List.length_append]
  exact h
/-- Follow's rows -/
structure FoW (w : World) (A : Option Addr) (n c : Nat) (st : Int) (W : World) (xv yv : Value) (x y : List Int) : Prop where
  mb : Blk W w.heap.size #[.int .i64 st, .slice A n c] 31
  xo : Ints W w.heap.size xv x
  yo : Ints W w.heap.size yv y
  ap : Ap2 xv yv
  bel : Below w.heap.size w W
section
variable {w W W' : World} {A : Option Addr} {n c : Nat} {st : Int} {xv yv : Value} {x y : List Int}
theorem FoW.keep (h : FoW w A n c st W xv yv x y) (hb : Below W.heap.size W W') : FoW w A n c st W' xv yv x y :=
  ⟨h.mb.step hb, own_below h.xo hb (Nat.le_refl _), own_below h.yo hb (Nat.le_refl _), h.ap, h.bel.trans (hb.mono h.bel.size)⟩
theorem int_blk_grown {B b n : Nat} {t : TypeId} {v : Value} {xs : List Value} {cs : Array Value} (hr : W.ownsRow B 3 1 v n xs) (hb : Blk W b cs t) (hne : t ≠ 3) (hg : W.grownBy W' v.ownBlock) : Blk W' b cs t := by
  refine hb.grown hg (fun e => ?_)
  rcases hr.2 with ⟨rfl, _⟩ | ⟨g, cap, cur, rfl, _, hg2, _⟩
  · simp [Value.ownBlock] at e
  · simp [Value.ownBlock] at e
    subst e
    unfold Blk at hb
    rw [hb] at hg2
    simp at hg2
    exact hne hg2.2
theorem FoW.appx (h : FoW w A n c st W xv yv x y) (hg : W.grownBy W' xv.ownBlock) (i : Int) {g cap : Nat} (ho : W'.ownsRow w.heap.size 3 1 (.slice (some ⟨g, 0, none⟩) (x.length + 1) cap) (x.length + 1) (icells x ++ (#[.int .i64 i] : Array Value).toList)) (hat : xv.ownBlock = some g ∨ W.heap.size < g) :
    FoW w A n c st W' (.slice (some ⟨g, 0, none⟩) (x.length + 1) cap) yv (x ++ [i]) y :=
  ⟨int_blk_grown h.xo h.mb (by decide) hg, Ints.snoc ho, World.ownsRow.kept h.yo hg h.ap.ne, h.ap.app h.yo hat, below_app h.bel h.xo hg (Nat.le_refl _) h.bel.size⟩
theorem FoW.appy (h : FoW w A n c st W xv yv x y) (hg : W.grownBy W' yv.ownBlock) (i : Int) {g cap : Nat} (ho : W'.ownsRow w.heap.size 3 1 (.slice (some ⟨g, 0, none⟩) (y.length + 1) cap) (y.length + 1) (icells y ++ (#[.int .i64 i] : Array Value).toList)) (hat : yv.ownBlock = some g ∨ W.heap.size < g) :
    FoW w A n c st W' xv (.slice (some ⟨g, 0, none⟩) (y.length + 1) cap) x (y ++ [i]) :=
  ⟨int_blk_grown h.yo h.mb (by decide) hg, World.ownsRow.kept h.xo hg h.ap.symm.ne, Ints.snoc ho, (h.ap.symm.app h.xo hat).symm, below_app h.bel h.yo hg (Nat.le_refl _) h.bel.size⟩
end
/-- what Follow answers -/
def FollowR (w w' : World) (m : MachL) (s : Nat) (l : List Int) (e : Ending) : Prop :=
  (e = .returned (.tuple #[.slice none 0 0, .slice none 0 0, .int .i64 0, .int .i64 12]) ∧ ∀ t z, trun m s l = some t → m.states[t.q]? = some z → z.final = 1000000001) ∨
  ∃ (xv yv : Value) (t : Trail) (z : StateL), e = .returned (.tuple #[xv, yv, .int .i64 (t.c + z.final), .int .i64 0]) ∧ trun m s l = some t ∧ m.states[t.q]? = some z ∧ z.final ≠ 1000000001 ∧ Ints w' w.heap.size xv t.x ∧ Ints w' w.heap.size yv t.y

set_option maxRecDepth 100000 in
set_option maxHeartbeats 8000000 in
theorem Follow_any (v : Value) (m : MachL) (A1 : Option Addr) (c1 : Nat) (l : List Int) (w : World) (hm : MachAt w v m) (hv : Valid m) (hs : BSmall m) (h0 : 0 ≤ m.start) (hl : Rd w A1 l.length 1 (icells l)) (hll : l.length ≤ 100) :
    Calls Try.prog 24 #[v, .slice A1 l.length c1] w fun e w' => FollowR w w' m m.start.toNat l e ∧ Below w.heap.size w w' := by
  have CH := Lib.hid (fun W (hb : Below w.heap.size w W) => Check_ok v m W (hm.below hb) hv)
  obtain ⟨A, c, rfl, hS⟩ := hm
  have hsz := hv.size; have hst1 := hv.s1
  have HS := Lib.hid hS; have HV := Lib.hid hv; have HSM := Lib.hid hs; have HL := Lib.hid hl
  have rd := hS.rdy; have rdl := hl.rdy
  have HAL := Lib.hid (fun (s : StateL) (hs : s ∈ m.states) => (show s.arcs.length ≤ 400 by have h3 := hv.arcs; have := arcs_le_of m.states s hs; omega))
  obtain ⟨sn, hsn⟩ : ∃ sn : Nat, m.start = sn := ⟨m.start.toNat, by omega⟩
  have hsn2 : m.start.toNat = sn := by omega
  have hsl : sn < m.states.length := by omega
  rw [hsn2]
  rw [hsn] at CH ⊢
  clear hS hv hs hsn hsn2 h0 hst1 hl
  go_enter Try.func24, Try.ntmps24
  go_wp2_with fail
  refine (CH.out _ (by repeat' (first | exact Below.refl _ _ | assumption | refine Below.drew ?_ | refine Below.alloc ?_ (by first | omega | (simp; done) | (simp; omega)) _ | refine Below.setCell ?_ (by first | omega | (simp; done) | (simp; omega)) _))).mono ?_; rintro e w1 ⟨rfl, r1⟩
  have F0 : FoW w A m.states.length c sn w1 (.slice none 0 0) (.slice none 0 0) [] [] := ⟨Blk.step (Blk.new' rfl) r1, World.ownsRow_nil _ _ _ _, World.ownsRow_nil _ _ _ _, fun k h => by simp [Value.ownBlock] at h, ((by repeat' (first | exact Below.refl _ _ | assumption | refine Below.drew ?_ | refine Below.alloc ?_ (by first | omega | (simp; done) | (simp; omega)) _ | refine Below.setCell ?_ (by first | omega | (simp; done) | (simp; omega)) _)) : Below w.heap.size w _).trans (r1.mono (by simp))⟩
  have km := F0.mb.cell; have lm := F0.mb.lt
  have HF0 := Lib.hid F0
  clear r1 CH F0
  go_wp2_with fail
  clear km lm
  go_loopw [25, 4, 5, 6, 9] (fun kv xs ys cv qv wr => ∃ (k : Nat) (xv yv : Value) (t : Trail), k ≤ l.length ∧ kv = .int .i64 k ∧ xv = xs ∧ yv = ys ∧ cv = .int .i64 t.c ∧ qv = .int .i64 t.q ∧ trun m sn (l.take k) = some t ∧ t.q < m.states.length ∧ 0 ≤ t.c ∧ t.c ≤ 1000000 * k ∧ t.x.length ≤ k ∧ t.y.length ≤ k ∧ FoW w A m.states.length c sn wr xv yv t.x t.y) (fun kv _ _ _ _ _ => l.length - (intOf kv).toNat)
  case atStart => exact ⟨0, _, _, ⟨sn, 0, [], []⟩, by omega, rfl, rfl, rfl, rfl, rfl, rfl, hsl, by simp, by simp, by simp, by simp, HF0.out⟩
  case round =>
    obtain ⟨k, xv, yv, t, hk, rfl, rfl, rfl, rfl, rfl, htr, htq, hc0, hc1, hx, hy, hF⟩ := hrel
    have HF := Lib.hid hF; have HTR := Lib.hid htr
    have j0 : (0 : Int) ≤ ↑k := by omega
    have km := hF.mb.cell; have lm := hF.mb.lt
    have hSr := HS.out.below hF.bel (Nat.le_refl _)
    have d0 := hSr.c0 t.q htq
    obtain ⟨A', c', d1', hA'⟩ := HS.out.c1 t.q htq
    have d1 := cell_keep hF.bel (Nat.le_refl _) d1'
    have hsq : m.states[t.q]? = some m.states[t.q] := List.getElem?_eq_getElem htq
    have hvs := HV.out.st _ (List.getElem_mem htq)
    have hss := HSM.out _ (List.getElem_mem htq)
    have hal := HAL.out _ (List.getElem_mem htq)
    have HSQ := Lib.hid hsq; have HVS := Lib.hid hvs; have HSS := Lib.hid hss; have HA := Lib.hid hA'
    have rdA := hA'.rdy
    generalize m.states[t.q] = s at *
    have lA := World.block_lt_of_cell? _ _ d0
    obtain ⟨q, c9, x, y⟩ := t
    simp only at *
    have i0 : (0 : Int) ≤ ↑q := by omega
    have i1 : (↑q : Int) < ↑m.states.length := by omega
    have i2 : ¬ (↑q : Int) < 0 := by omega
    clear hSr hF htr d1' hA' hsq hvs hss
    by_cases hlt : k < l.length
    · have j1 : (↑k : Int) < ↑l.length := by omega
      have ck := cell_keep HF.out.bel (Nat.le_refl _) (HL.out.at' ((by simp [icells, hlt] : (icells l)[k]? = some (.int .i64 l[k]))))
      have htk : l.take (k + 1) = l.take k ++ [l[k]] := List.take_succ_eq_append_getElem hlt
      have HTK := Lib.hid htk; clear htk
      have HSTOP := Lib.hid (fun h => trun_stop m sn l (k + 1) h)
      generalize l[k] = i at *
      have lcl := World.block_lt_of_cell? _ _ ck
      by_cases hok : 0 ≤ i ∧ i < s.arcs.length
      · obtain ⟨hi0, hi1⟩ := hok
        obtain ⟨p, rfl⟩ : ∃ p : Nat, i = p := ⟨i.toNat, by omega⟩
        have hpl : p < s.arcs.length := by omega
        have hAr := HA.out.below HF.out.bel (Nat.le_refl _)
        have f0 := hAr.c0 p hpl; have f1 := hAr.c1 p hpl; have f2 := hAr.c2 p hpl; have f3 := hAr.c3 p hpl
        have hmem := List.getElem_mem hpl
        have hva := HVS.out.2 _ hmem; have hwa := HSS.out.2 _ hmem
        have hnew : trun m sn (l.take (k + 1)) = some ⟨s.arcs[p].to.toNat, c9 + s.arcs[p].wt, x ++ pre1 s.arcs[p].inn, y ++ pre1 s.arcs[p].out⟩ := by
          rw [HTK.out, trun_snoc, HTR.out]; exact tstep_ok HSQ.out hpl
        generalize s.arcs[p] = a at *
        obtain ⟨tn, htn⟩ : ∃ tn : Nat, a.to = tn := ⟨a.to.toNat, by have := hva.t0; omega⟩
        have htn2 : a.to.toNat = tn := by omega
        have htl : tn < m.states.length := by have := hva.t1; omega
        rw [htn2] at hnew
        rw [htn] at f3
        have HNEW := Lib.hid hnew
        have g1 := hva.w0
        have lA' := World.block_lt_of_cell? _ _ f0
        have hwr : IntKind.i64.wrap (c9 + a.wt) = c9 + a.wt := IntWalk.i64_in _ (by omega)
        have p0 : (0 : Int) ≤ ↑p := by omega
        have p1 : (↑p : Int) < ↑s.arcs.length := by omega
        have p2 : ¬ (↑p : Int) < 0 := by omega
        have p3 : ¬ (↑s.arcs.length : Int) ≤ ↑p := by omega
        clear hnew hva hmem hAr htn htn2
        go_upto_region 13 with fail
        have X6 : Blk (wr.alloc (.cells #[.int .i64 a.inn, .int .i64 a.out, .int .i64 a.wt, .int .i64 tn] 92)) wr.heap.size #[.int .i64 a.inn, .int .i64 a.out, .int .i64 a.wt, .int .i64 tn] 92 := Blk.new _ _ _
        have HF6 := Lib.hid (HF.out.keep ((Below.refl _ _).alloc (Nat.le_refl _) (.cells #[.int .i64 a.inn, .int .i64 a.out, .int .i64 a.wt, .int .i64 tn] 92)))
        clear km lm d0 d1 lA ck lcl f0 f1 f2 f3 lA' HF
        generalize wr.alloc (.cells #[.int .i64 a.inn, .int .i64 a.out, .int .i64 a.wt, .int .i64 tn] 92) = w6 at *
        generalize wr.heap.size = ab at *
        have k6 := X6.cell; have l6 := X6.lt
        by_cases hin : a.inn = 0
        · have e1 : (a.inn == 0) = true := by simpa using hin
          have HPX : Hid (pre1 a.inn = []) := Lib.hid (by unfold pre1; rw [if_pos hin])
          clear hin
          by_cases hout : a.out = 0
          · have e2 : (a.out == 0) = true := by simpa using hout
            have HPY : Hid (pre1 a.out = []) := Lib.hid (by unfold pre1; rw [if_pos hout])
            clear hout
            go_wp2_with fail
            go_roundw
            case rel => exact ⟨k + 1, _, _, ⟨tn, c9 + a.wt, x, y⟩, by omega, by go_num, rfl, rfl, rfl, rfl, by rw [HNEW.out, HPX.out, HPY.out]; simp, htl, by simp only; omega, by simp only; omega, by simp; omega, by simp; omega, HF6.out⟩
            case measure => simp [intOf]; omega
          · have e2 : (a.out == 0) = false := by simpa using hout
            have HPY : Hid (pre1 a.out = [a.out]) := Lib.hid (by unfold pre1; rw [if_neg hout])
            clear hout
            go_wp2_with (at_builtin; refine wpList_app1 rfl _ _ rfl eltInt w.heap.size yv y.length (icells y) rfl w6 HF6.out.yo #[.int .i64 a.out] rfl w6.heap.size rfl rfl rfl (by simp [Value.oneCell']) (by omega) (by omega) HF6.out.bel.size ?_; intro g2 cap2 w8 hown2 hg2 hat2 hlt6; have k8 := (int_blk_grown HF6.out.yo X6 (by decide) hg2).cell; have l8 := (int_blk_grown HF6.out.yo X6 (by decide) hg2).lt)
            have HF8 := Lib.hid (HF6.out.appy hg2 a.out hown2 hat2)
            clear hown2 hg2 hat2 hlt6
            go_roundw
            case rel => exact ⟨k + 1, _, _, ⟨tn, c9 + a.wt, x, y ++ [a.out]⟩, by omega, by go_num, rfl, rfl, rfl, rfl, by rw [HNEW.out, HPX.out, HPY.out]; simp, htl, by simp only; omega, by simp only; omega, by simp; omega, by simp; omega, HF8.out⟩
            case measure => simp [intOf]; omega
        · have e1 : (a.inn == 0) = false := by simpa using hin
          have HPX : Hid (pre1 a.inn = [a.inn]) := Lib.hid (by unfold pre1; rw [if_neg hin])
          clear hin
          go_upto_region 15 with (at_builtin; refine wpList_app1 rfl _ _ rfl eltInt w.heap.size xv x.length (icells x) rfl w6 HF6.out.xo #[.int .i64 a.inn] rfl w6.heap.size rfl rfl rfl (by simp [Value.oneCell']) (by omega) (by omega) HF6.out.bel.size ?_; intro g cap w7 hown hg hat hlt5; have k7 := (int_blk_grown HF6.out.xo X6 (by decide) hg).cell; have l7 := (int_blk_grown HF6.out.xo X6 (by decide) hg).lt)
          have HF7 := Lib.hid (HF6.out.appx hg a.inn hown hat)
          have X7 := int_blk_grown HF6.out.xo X6 (by decide) hg
          clear hown hg hat hlt5 k6 l6
          by_cases hout : a.out = 0
          · have e2 : (a.out == 0) = true := by simpa using hout
            have HPY : Hid (pre1 a.out = []) := Lib.hid (by unfold pre1; rw [if_pos hout])
            clear hout
            go_wp2_with fail
            go_roundw
            case rel => exact ⟨k + 1, _, _, ⟨tn, c9 + a.wt, x ++ [a.inn], y⟩, by omega, by go_num, rfl, rfl, rfl, rfl, by rw [HNEW.out, HPX.out, HPY.out]; simp, htl, by simp only; omega, by simp only; omega, by simp; omega, by simp; omega, HF7.out⟩
            case measure => simp [intOf]; omega
          · have e2 : (a.out == 0) = false := by simpa using hout
            have HPY : Hid (pre1 a.out = [a.out]) := Lib.hid (by unfold pre1; rw [if_neg hout])
            clear hout
            go_wp2_with (at_builtin; refine wpList_app1 rfl _ _ rfl eltInt w.heap.size yv y.length (icells y) rfl w7 HF7.out.yo #[.int .i64 a.out] rfl w7.heap.size rfl rfl rfl (by simp [Value.oneCell']) (by omega) (by omega) HF7.out.bel.size ?_; intro g2 cap2 w8 hown2 hg2 hat2 hlt6; have k8 := (int_blk_grown HF7.out.yo X7 (by decide) hg2).cell; have l8 := (int_blk_grown HF7.out.yo X7 (by decide) hg2).lt)
            have HF8 := Lib.hid (HF7.out.appy hg2 a.out hown2 hat2)
            clear hown2 hg2 hat2 hlt6
            go_roundw
            case rel => exact ⟨k + 1, _, _, ⟨tn, c9 + a.wt, x ++ [a.inn], y ++ [a.out]⟩, by omega, by go_num, rfl, rfl, rfl, rfl, by rw [HNEW.out, HPX.out, HPY.out], htl, by simp only; omega, by simp only; omega, by simp; omega, by simp; omega, HF8.out⟩
            case measure => simp [intOf]; omega
      · have HNO : Hid (FollowR w wr m sn l (.returned (.tuple #[.slice none 0 0, .slice none 0 0, .int .i64 0, .int .i64 12]))) := Lib.hid (.inl ⟨rfl, fun t' z h _ => by
          have h9 := HSTOP.out (by rw [HTK.out, trun_snoc, HTR.out]; exact tstep_bad HSQ.out (by omega))
          rw [h9] at h; cases h⟩)
        have hcs : (i < 0) ∨ (¬ i < 0 ∧ (s.arcs.length : Int) ≤ i) := by omega
        clear hok
        rcases hcs with g5 | ⟨g5, g6⟩
        all_goals
          go_wp2_with fail
          refine bodyPost_ret (v := .tuple #[.slice none 0 0, .slice none 0 0, .int .i64 0, .int .i64 12]) (by simp [results, Try.results24, go_sem, *]) rfl ⟨HNO.out, HF.out.bel⟩
    · obtain rfl : k = l.length := by omega
      have j1 : ¬ (↑l.length : Int) < ↑l.length := by omega
      rw [List.take_of_length_le (Nat.le_refl _)] at HTR
      by_cases hf : s.final = 1000000001
      · have e1 : (s.final == 1000000001) = true := by simpa using hf
        have HNO : Hid (FollowR w wr m sn l (.returned (.tuple #[.slice none 0 0, .slice none 0 0, .int .i64 0, .int .i64 12]))) := Lib.hid (.inl ⟨rfl, fun t' z h hz => by
          rw [HTR.out] at h; cases h
          simp only at hz
          rw [HSQ.out] at hz; cases hz
          exact hf⟩)
        clear hf
        go_wp2_with fail
        refine bodyPost_ret (v := .tuple #[.slice none 0 0, .slice none 0 0, .int .i64 0, .int .i64 12]) (by simp [results, Try.results24, go_sem, *]) rfl ⟨HNO.out, HF.out.bel⟩
      · have e1 : (s.final == 1000000001) = false := by simpa using hf
        have hvf := HVS.out.1
        unfold ValidFinal at hvf
        have hsf := HSS.out.1
        have f0 : 0 ≤ s.final := by omega
        have f1 : s.final ≤ 1000000 := by omega
        have hwr : IntKind.i64.wrap (c9 + s.final) = c9 + s.final := IntWalk.i64_in _ (by omega)
        have hle : ¬ 1000000000 < c9 + s.final := by omega
        have HYES : Hid (FollowR w wr m sn l (.returned (.tuple #[xv, yv, .int .i64 (c9 + s.final), .int .i64 0]))) := Lib.hid (.inr ⟨xv, yv, _, s, rfl, HTR.out, HSQ.out, hf, HF.out.xo, HF.out.yo⟩)
        obtain ⟨X1, X2, rfl, -, -⟩ := own_form HF.out.xo
        obtain ⟨Y1, Y2, rfl, -, -⟩ := own_form HF.out.yo
        clear hf hvf hsf
        go_wp2_with fail
        refine bodyPost_ret (v := .tuple #[.slice X1 x.length X2, .slice Y1 y.length Y2, .int .i64 (c9 + s.final), .int .i64 0]) (by simp [results, Try.results24, go_sem, *]) rfl ⟨HYES.out, HF.out.bel⟩
end Go.Proofs.Ytndajklppipckaa
