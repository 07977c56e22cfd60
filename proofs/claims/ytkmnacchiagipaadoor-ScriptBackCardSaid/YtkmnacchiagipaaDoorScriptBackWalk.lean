/- The walk of ScriptBack. -/
import Derived.Test.YtkmnacchiagipaaDoorScriptTodoStep
namespace Go.Proofs.YtkmnacchiagipaaDoor
open Go.RowKit

def stT (t : TodoL) : StepL := stepT t.kind t.dest t.a t.b t.name
theorem eltStepB : Elt Tryd.prog 49 51 (.agg #[.int .i64 0, .int .i64 0, .int .i64 0, .int .i64 0, .string ⟨#[]⟩]) 5 48 := ⟨Tryd.underlying49, by kernel_rfl, rfl, by omega⟩
namespace scriptBack
set_option maxRecDepth 100000 in
set_option maxHeartbeats 8000000 in
theorem walk {w : World} (ht : ScrW w) (A : Option Addr) (n c : Nat) (l : List TodoL) (hx : TodosArg w A n l) :
    Calls Tryd.prog 6 #[.slice A n c] w fun e w' => e = .returned (.bool true) ∧ Below w.heap.size w w' := by
  obtain ⟨rfl, hlen, hT, hok⟩ := hx
  have HT := Lib.hid hT; have HOK := Lib.hid hok; have HW := Lib.hid ht
  have rd := hT.rdy
  have HS0 := Lib.hid (show stepsC ((l.take 0).map stT) = [] by simp [stepsC])
  clear hT hok ht
  go_enter Tryd.func6, Tryd.ntmps6
  go_wp2_with fail
  go_loopw [3, 4] (fun sv iv wr => ∃ k : Nat, k ≤ l.length ∧ k ≤ 30 ∧ iv = .int .i64 k ∧ wr.ownsRow w.heap.size 51 5 sv k (stepsC ((l.take k).map stT)) ∧ Below w.heap.size w wr) (fun _ iv _ => 30 - (intOf iv).toNat)
  case atStart => exact ⟨0, by omega, by omega, rfl, by rw [HS0.out]; exact World.ownsRow_nil _ _ _ _, Below.refl _ _⟩
  case round =>
    obtain ⟨k, hk, hk30, rfl, hown, bel⟩ := hrel
    have i0 : (0 : Int) ≤ ↑k := by omega
    have HOW := Lib.hid hown; have HB := Lib.hid bel
    by_cases hlt : k < l.length ∧ k < 30
    · obtain ⟨h1, h30⟩ := hlt
      have i1 : (↑k : Int) < ↑l.length := by omega
      have i2 : (↑k : Int) < 30 := by omega
      have hTr := HT.out.below bel (Nat.le_refl _)
      have d0 := hTr.c0 k h1; have d1 := hTr.c1 k h1; have d2 := hTr.c2 k h1; have d3 := hTr.c3 k h1; have d4 := hTr.c4 k h1
      have lA := World.block_lt_of_cell? _ _ d0
      have ST := Lib.hid (fun W => step_todo l[k] W (HOK.out _ (List.getElem_mem h1)))
      have hsn : stepsC ((l.take (k + 1)).map stT) = stepsC ((l.take k).map stT) ++ stepC (stT l[k]) := by
        rw [List.take_succ_eq_append_getElem h1, List.map_append]; unfold stepsC; rw [List.flatMap_append]; simp
      have HSN := Lib.hid hsn
      obtain ⟨sA, sc, rfl, -, -⟩ := own_form hown
      have hss : stepT l[k].kind l[k].dest l[k].a l[k].b l[k].name = stT l[k] := rfl
      rw [hss] at ST
      generalize stT l[k] = sv at *
      generalize l[k] = t at *
      obtain ⟨tk, td, ta, tb, tn⟩ := t
      obtain ⟨sk, sd, sa, sb, sn⟩ := sv
      simp only [stepC] at ST HSN d0 d1 d2 d3 d4
      clear hown bel hTr hsn hss
      go_wp2_with fail
      refine (ST.out _).mono ?_; rintro e w2 ⟨rfl, b2⟩
      have b3 : Below wr.heap.size wr (w2.alloc (.cells #[.int .i64 sk, .int .i64 sd, .int .i64 sa, .int .i64 sb, .string ⟨sn.toArray⟩] 51)) := b2.alloc b2.size _
      have HO3 := Lib.hid (own_below HOW.out b3 (Nat.le_refl _))
      have HB3 := Lib.hid (HB.out.trans (b3.mono HB.out.size))
      have hz3 : w.heap.size ≤ (w2.alloc (.cells #[.int .i64 sk, .int .i64 sd, .int .i64 sa, .int .i64 sb, .string ⟨sn.toArray⟩] 51)).heap.size := HB3.out.size
      have hk6 : k + 1 ≤ 1000000 := by omega
      clear b2 b3 d0 d1 d2 d3 d4 ST
      go_wp2_with (at_builtin; go_loud (refine wpList_app1 rfl _ _ rfl eltStepB w.heap.size (.slice sA k sc) k _ rfl (w2.alloc (.cells #[.int .i64 sk, .int .i64 sd, .int .i64 sa, .int .i64 sb, .string ⟨sn.toArray⟩] 51)) HO3.out #[.int .i64 sk, .int .i64 sd, .int .i64 sa, .int .i64 sb, .string ⟨sn.toArray⟩] rfl (w2.heap.size + 1) (by simp) rfl rfl (by simp [Value.oneCell']) hk6 (by omega) hz3 ?_; intro g cap w4 ho4 hg4 hb4 hl4; have HO4 := Lib.hid ho4; have HB4 := Lib.hid (HB3.out.grown hg4 HB3.out.size (fun x hx => (HO3.out.lt x hx).1)); clear ho4 hg4))
      go_roundw
      case rel => exact ⟨k + 1, by omega, by omega, by go_num, by rw [HSN.out]; exact HO4.out, HB4.out⟩
      case measure => simp [intOf]; omega
    · have hkx : ¬ (k : Int) < (l.length : Int) ∨ ((k : Int) < (l.length : Int) ∧ ¬ (k : Int) < 30) := by omega
      have hS : ((l.take k).map stT).length = k := by rw [List.length_map, List.length_take]; omega
      have hall : ∀ s ∈ (l.take k).map stT, shownS s = .inr (txtS s) ∧ noSp s.name := fun s hs => by
        obtain ⟨t, -, rfl⟩ := List.mem_map.1 hs
        exact stepT_ok _ _ _ _ _
      have hnl : ∀ s ∈ (l.take k).map stT, s.name.length ≤ 100000 := fun s hs => by
        obtain ⟨t, -, rfl⟩ := List.mem_map.1 hs
        show (stepT _ _ _ _ _).name.length ≤ 100000
        unfold stepT
        split
        · simp [nmT]
        · split
          · simp [nmT]
          · split <;> simp
      generalize (l.take k).map stT = S at *
      subst hS
      obtain ⟨sA, sc, rfl, -, -⟩ := own_form hown
      have hAt := StepsAt.of_own hown
      have HA := Lib.hid hAt
      have hbk := script_back hk30 hall
      have HBK := Lib.hid hbk
      have hsh : ShowsAs txtS S := fun s hs => ⟨hnl s hs, (hall s hs).1⟩
      have hlt := scriptT_len hsh hk30 S.length
      rw [List.take_length] at hlt
      have SH := Lib.hid (Show_steps txtS sA S sc wr hAt hk30 hsh (HW.out.below bel).forms.forms)
      have HLT := Lib.hid hlt
      clear hown bel hAt hbk hsh hlt hall hnl HOW hlen hk
      rcases hkx with hkx | ⟨hk1, hk2⟩
      all_goals
        go_wp2_with fail
        refine SH.out.mono ?_; rintro e w2 ⟨rfl, b2⟩
        have HB2 := Lib.hid (HB.out.trans (b2.mono HB.out.size))
        have HA2 := Lib.hid (HA.out.below b2 (Nat.le_refl _))
        clear b2
        go_wp2_with fail
        refine (Read_script ⟨(scriptT txtS S).toArray⟩ w2 (HW.out.below HB2.out)).mono ?_; rintro e w3 ⟨hr, b3⟩
        have ed : (⟨(scriptT txtS S).toArray⟩ : ByteArray).data.toList = scriptT txtS S := rfl
        rw [ed] at hr
        rcases hr with ⟨-, -, v, rfl, ho⟩ | ⟨hbad, -⟩
        · rw [HBK.out.2] at ho
          have hln : (linesL (scriptT txtS S)).length = S.length := by have := congrArg List.length HBK.out.2; rwa [List.length_map] at this
          rw [hln] at ho
          obtain ⟨A', c', rfl, -, -⟩ := own_form ho
          have HM := Lib.hid (StepsAt.of_own ho)
          have HA3 := Lib.hid (HA2.out.below b3 (Nat.le_refl _))
          have HB3 := Lib.hid (HB2.out.trans (b3.mono HB2.out.size))
          have rd' := HM.out.rdy; have rd2 := HA3.out.rdy
          clear ho hln b3 ed SH HA2
          go_wp2_with fail
          go_loopw [12] (fun qv wr => ∃ (q : Nat), q ≤ S.length ∧ qv = .int .i64 q ∧ Below w3.heap.size w3 wr) (fun qv _ => S.length - (intOf qv).toNat)
          case atStart => exact ⟨0, by omega, rfl, Below.refl _ _⟩
          case round =>
            obtain ⟨q, hq, rfl, bel⟩ := hrel
            have i9 : (0 : Int) ≤ ↑q := by omega
            by_cases hlq : q < S.length
            · have i1 : (↑q : Int) < ↑S.length := by omega
              have hA := HA3.out.below bel (Nat.le_refl _); have hN := HM.out.below bel (Nat.le_refl _)
              have a0 := hA.c0 q hlq; have a1 := hA.c1 q hlq; have a2 := hA.c2 q hlq; have a3 := hA.c3 q hlq; have a4 := hA.c4 q hlq
              have d0 := hN.c0 q hlq; have d1 := hN.c1 q hlq; have d2 := hN.c2 q hlq; have d3 := hN.c3 q hlq; have d4 := hN.c4 q hlq
              generalize S[q] = sv at *
              obtain ⟨sk, sd, sa, sb, sn⟩ := sv
              simp only at a0 a1 a2 a3 a4 d0 d1 d2 d3 d4
              have lA := World.block_lt_of_cell? _ _ a0; have lD := World.block_lt_of_cell? _ _ d0
              clear hA hN
              go_wp2_with fail
              go_region
              all_goals
                go_wp2_with fail
                go_roundw
                case rel => exact ⟨q + 1, by omega, by go_num, by first | exact bel | exact bel.drew⟩
                case measure => simp [intOf]; omega
            · obtain rfl : q = S.length := by omega
              have i1 : ¬ (↑S.length : Int) < ↑S.length := by omega
              go_wp2_with fail
              go_ret
              exact ⟨rfl, HB3.out.trans (bel.mono HB3.out.size)⟩
        · exfalso
          rcases hbad with h | h
          · have := HLT.out; omega
          · exact h HBK.out.1
end scriptBack
end Go.Proofs.YtkmnacchiagipaaDoor
