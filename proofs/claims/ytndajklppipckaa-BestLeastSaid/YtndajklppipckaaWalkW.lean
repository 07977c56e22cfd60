/- walk: a path along a word. -/
import Derived.Test.YtndajklppipckaaBestPath
import Derived.Test.YtndajklppipckaaMBox
import Derived.Test.YtndajklppipckaaIntArg
import Derived.Test.YtndajklppipckaaPick
import Derived.Test.YtndajklppipckaaBuild
import Derived.Test.YtndajklppipckaaFollow
import Derived.LoopTactic
import Derived.IntWalk
import Derived.Deep.DeepCutAuto
import Derived.Deep.QuietTactic
import Derived.BigQuiet
namespace Go.Proofs.Ytndajklppipckaa
open Go.RowKit

/-- what walk answers -/
def WalkR (w w' : World) (lv : Value) : Prop := ∃ l, w'.ownsRow w.heap.size 3 1 lv (List.length l) (icells l) ∧ l.length ≤ 20
set_option maxRecDepth 100000 in
set_option maxHeartbeats 8000000 in
theorem walk_any (v : Value) (m : MachL) (A1 : Option Addr) (n1 c1 : Nat) (xs : List Int) (w : World) (hm : MachAt w v m) (hv : Valid m) (h0 : 0 ≤ m.start) (hx : IntArg w A1 n1 xs) :
    Calls Try.prog 23 #[v, .slice A1 n1 c1] w fun e w' => ∃ lv, e = .returned lv ∧ WalkR w w' lv ∧ Below w.heap.size w w' := by
  obtain ⟨A, c, rfl, hS⟩ := hm
  have hsz := hv.size; have hst1 := hv.s1
  have HS := Lib.hid hS; have HV := Lib.hid hv
  have rd := hS.rdy
  have HAL := Lib.hid (fun (s : StateL) (hs : s ∈ m.states) => (show s.arcs.length ≤ 400 by have h3 := hv.arcs; have := arcs_le_of m.states s hs; omega))
  obtain ⟨sn, hsn⟩ : ∃ sn : Nat, m.start = sn := ⟨m.start.toNat, by omega⟩
  have hsl : sn < m.states.length := by omega
  rw [hsn]
  have HXA := Lib.hid hx
  have rdx := hx.rd.rdy
  have hmx := hx.max
  have HXL := Lib.hid hx.len
  clear hS hv hsn h0 hst1 hx
  go_enter Try.func23, Try.ntmps23
  go_wp2_with fail
  have M0 : Blk (w.alloc (.cells #[.int .i64 sn, .slice A m.states.length c] 31)) w.heap.size #[.int .i64 sn, .slice A m.states.length c] 31 := Blk.new _ _ _
  have b0 : Below w.heap.size w (w.alloc (.cells #[.int .i64 sn, .slice A m.states.length c] 31)) := (Below.refl _ _).alloc (Nat.le_refl _) _
  generalize w.alloc (.cells #[.int .i64 sn, .slice A m.states.length c] 31) = w1 at *
  have HM0 := Lib.hid M0; clear M0
  go_loopw [7, 6, 5] (fun kv lv qv wr => ∃ (k q : Nat) (av : Value) (l : List Int), k ≤ n1 ∧ k ≤ 20 ∧ kv = .int .i64 k ∧ av = lv ∧ qv = .int .i64 q ∧ q < m.states.length ∧ l.length = k ∧ wr.ownsRow w.heap.size 3 1 av l.length (icells l) ∧ Blk wr w.heap.size #[.int .i64 sn, .slice A m.states.length c] 31 ∧ Below w.heap.size w wr) (fun kv _ _ _ => 20 - (intOf kv).toNat)
  case atStart => exact ⟨0, sn, _, [], by omega, by omega, rfl, rfl, rfl, hsl, rfl, World.ownsRow_nil _ _ _ _, HM0.out, b0⟩
  case round =>
    obtain ⟨k, q, av, l, hk, hk20, rfl, rfl, rfl, hql, hlk, hO, hM, bel⟩ := hrel
    have HM := Lib.hid hM; have HO := Lib.hid hO; have HLK := Lib.hid hlk
    have j0 : (0 : Int) ≤ ↑k := by omega
    have km := hM.cell; have lm := hM.lt
    have hSr := HS.out.below bel (Nat.le_refl _)
    have d0 := hSr.c0 q hql
    obtain ⟨A', c', d1', hA'⟩ := HS.out.c1 q hql
    have d1 := cell_keep bel (Nat.le_refl _) d1'
    have hbA : blk A < w.heap.size := World.block_lt_of_cell? _ _ d1'
    have hvs := HV.out.st _ (List.getElem_mem hql)
    have hal := HAL.out _ (List.getElem_mem hql)
    have HVS := Lib.hid hvs; have HA := Lib.hid hA'
    have rdA := hA'.rdy
    generalize m.states[q] = s at *
    have lA := World.block_lt_of_cell? _ _ d0
    have i0 : (0 : Int) ≤ ↑q := by omega
    have i1 : (↑q : Int) < ↑m.states.length := by omega
    have hl20 : l.length ≤ 20 := by omega
    clear hSr hM d1' hA' hvs hO
    have done : Hid (WalkR w wr av) := Lib.hid ⟨l, HO.out, hl20⟩
    clear hl20 hlk
    by_cases hlt : k < n1
    · have j1 : (↑k : Int) < ↑n1 := by omega
      by_cases h20 : k < 20
      · have j2 : (↑k : Int) < 20 := by omega
        by_cases ha : 0 < s.arcs.length
        · have j3 : (0 : Int) < ↑s.arcs.length := by omega
          have ck := cell_keep bel (Nat.le_refl _) (HXA.out.cell k (by rw [HXL.out]; exact hlt))
          have hbd := HXA.out.bd _ (List.getElem_mem (show k < xs.length by rw [HXL.out]; exact hlt))
          generalize xs[k]'(by rw [HXL.out]; exact hlt) = x at *
          have lcl := World.block_lt_of_cell? _ _ ck
          have hp0 := pick_lo x s.arcs.length (by omega)
          have hp1 := pick_hi x s.arcs.length (by omega)
          have hpk := fun W => picked_any x s.arcs.length W hbd.1 hbd.2 (by omega) (by omega)
          obtain ⟨p, hp⟩ : ∃ p : Nat, pick x s.arcs.length = p := ⟨(pick x s.arcs.length).toNat, by omega⟩
          rw [hp] at hpk hp1
          have HPK := Lib.hid hpk
          have hpl : p < s.arcs.length := by omega
          have hAr := HA.out.below bel (Nat.le_refl _)
          have f0 := hAr.c0 p hpl; have f3 := hAr.c3 p hpl
          have hbA' : blk A' < w.heap.size := World.block_lt_of_cell? _ _ (HA.out.c3 p hpl)
          have hva := HVS.out.2 _ (List.getElem_mem hpl)
          generalize s.arcs[p] = a at *
          obtain ⟨tn, htn⟩ : ∃ tn : Nat, a.to = tn := ⟨a.to.toNat, by have := hva.t0; omega⟩
          have htl : tn < m.states.length := by have := hva.t1; omega
          rw [htn] at f3
          have lA' := World.block_lt_of_cell? _ _ f0
          have p0 : (0 : Int) ≤ ↑p := by omega
          clear hpk hp hp0 hva hAr htn hbd
          go_upto_region 6 with fail
          go_quiet ((go_at_call 17; exact Calls.quiet_of_same ((HPK.out _).mono fun _ _ h => ⟨h.1, h.2.symm⟩)))
          have bd := below_drewN wr nq
          have belD := bel.trans (bd.mono bel.size)
          have HMd := Lib.hid (HM.out.step bd)
          have HOd := Lib.hid (own_below HO.out bd (Nat.le_refl _))
          have e1 := cellB bd d1; have e3 := cellB bd f3; have e0 := cellB bd d0
          clear km lm d0 d1 lA ck lcl f0 f3 lA' bd bel HM HO
          generalize wr.drewN nq = wd at *
          have hmk : ∀ {w9 : World}, wd.grownBy w9 av.ownBlock → (∀ o, w9.cell? ⟨w.heap.size, o, none⟩ = #[Value.int .i64 sn, .slice A m.states.length c][o]?) ∧ w.heap.size < w9.heap.size ∧ w9.cell? ⟨blk A, ofs A + q * 2 + 1, none⟩ = some (.slice A' s.arcs.length c') ∧ w9.cell? ⟨blk A', ofs A' + p * 4 + 3, none⟩ = some (.int .i64 tn) ∧ Blk w9 w.heap.size #[.int .i64 sn, .slice A m.states.length c] 31 ∧ blk A < w9.heap.size ∧ blk A' < w9.heap.size := fun {w9} hg => by
            have hb := int_blk_grown HOd.out HMd.out (by decide) hg
            have hz := hg.size
            have hbs := belD.size
            exact ⟨hb.cell, hb.lt, hg.cell e1 (fun e => own_base HOd.out hbA e.symm), hg.cell e3 (fun e => own_base HOd.out hbA' e.symm), hb, by omega, by omega⟩
          go_wp2_with (at_builtin; refine wpList_app1 rfl _ _ rfl eltInt w.heap.size av l.length (icells l) rfl wd HOd.out #[.int .i64 p] rfl wd.heap.size rfl rfl rfl (by simp [Value.oneCell']) (by rw [HLK.out]; omega) (by omega) belD.size ?_; intro g cap w9 hown hg hat hlt5; obtain ⟨z1, z2, z3, z4, z5, z6, z7⟩ := hmk hg)
          have b9 := below_app belD HOd.out hg (Nat.le_refl _) belD.size
          have HO9 : Hid (w9.ownsRow w.heap.size 3 1 (.slice (some ⟨g, 0, none⟩) (l.length + 1) cap) (l ++ [(p : Int)]).length (icells (l ++ [(p : Int)]))) := Lib.hid (by
            have e : icells (l ++ [(p : Int)]) = icells l ++ [.int .i64 p] := by simp [icells]
            rw [e, List.length_append]; exact hown)
          have HZ5 := Lib.hid z5
          clear hown hg hat hlt5 hmk z5
          go_roundw
          case rel => exact ⟨k + 1, tn, _, l ++ [(p : Int)], by omega, by omega, by go_num, rfl, rfl, htl, by rw [List.length_append, List.length_singleton, HLK.out], HO9.out, HZ5.out, b9⟩
          case measure => simp [intOf]; omega
        · have j3 : ¬ (0 : Int) < ↑s.arcs.length := by omega
          go_wp2_with fail
          go_ret
          exact ⟨_, rfl, done.out, bel⟩
      · have j2 : ¬ (↑k : Int) < 20 := by omega
        go_wp2_with fail
        go_ret
        exact ⟨_, rfl, done.out, bel⟩
    · have j1 : ¬ (↑k : Int) < ↑n1 := by omega
      go_wp2_with fail
      go_ret
      exact ⟨_, rfl, done.out, bel⟩
end Go.Proofs.Ytndajklppipckaa
