/- names.Check. -/
import Derived.Test.YtkmnacchiagipaaDoorNamesMade
import Derived.Test.YtkmnacchiagipaaDoorNamesWord
namespace Go.Proofs.YtkmnacchiagipaaDoor
open Go.RowKit

theorem run_len_x {κ ν : Type} {P : Program} {w : World} {b : Nat} {c : κ → Value} {d : ν → Value} {l : List (κ × ν)} {t k e : TypeId} (h : MapB w b c d l) (ht : P.underlying t = some (.map k e)) (ty : TypeId) : (Builtin.len_ #[t] ty #[.map (some b)]).run P w = .ok (.int .i64 (l.length : Nat)) w := by
  have hb : w.heap[b]? = some (.map (mapEs c d l).toArray l.length) := h.blk
  simp [Builtin.len_, run_underlying ht, MapKept.run_getObj_map hb, goInt, Result.andThen, mapEs_len]
/-- what Check answers -/
def CheckN (l : List NameL) (er : Int) : Prop := (er = 0 ↔ NamesOk l) ∧ 0 ≤ er ∧ er ≤ 14
theorem CheckN.no {l : List NameL} {er : Int} (h : ¬ NamesOk l) (h1 : 1 ≤ er) (h2 : er ≤ 14) : CheckN l er := ⟨⟨fun e => by omega, fun e => absurd e h⟩, by omega, h2⟩

set_option maxRecDepth 100000 in
set_option maxHeartbeats 8000000 in
theorem NCheck_any (A : Option Addr) (l : List NameL) (c : Nat) (w : World) (hT : NamesAt w A l) :
    Calls Tryd.prog 14 #[.slice A l.length c] w fun e w' => ∃ er : Int, e = .returned (.int .i64 er) ∧ CheckN l er ∧ Below w.heap.size w w' := by
  by_cases h100 : 100 < l.length
  · have HR := Lib.hid (CheckN.no (l := l) (er := 1) (fun h => by have := h.len; omega) (by omega) (by omega))
    have e1 : (100 : Int) < (l.length : Int) := by omega
    generalize l.length = n at *
    clear hT h100
    go_enter Tryd.func14, Tryd.ntmps14
    go_wp2_with fail
    go_ret
    exact ⟨_, rfl, HR.out, Below.refl _ _⟩
  · have e1 : ¬ (100 : Int) < (l.length : Int) := by omega
    have hn : l.length ≤ 100 := by omega
    have HT := Lib.hid hT
    have rd := hT.rdy
    clear hT h100
    go_enter Tryd.func14, Tryd.ntmps14
    go_wp2_with fail
    have hb : Below w.heap.size w (w.alloc (.cells (idxC A l.length c 0 0 0 none none) 103)) := (by repeat' (first | exact Below.refl _ _ | assumption | refine Below.drew ?_ | refine Below.alloc ?_ (by first | omega | (simp; done) | (simp; omega)) _ | refine Below.setCell ?_ (by first | omega | (simp; done) | (simp; omega)) _))
    refine (made_idx w (w.alloc (.cells (idxC A l.length c 0 0 0 none none) 103)) w.heap.size A l c HT.out hb (Nat.le_refl _) (Blk.new _ _ _) (by omega)).mono ?_; rintro e w2 ⟨rfl, bt, bl, hI, hB, -⟩
    have HI := Lib.hid hI; have HB := Lib.hid hB
    clear hI hB hb
    go_upto_region 5 with fail
    go_loopw [17] (fun iv wr => ∃ k : Nat, k ≤ l.length ∧ iv = .int .i64 k ∧ Below w2.heap.size w2 wr ∧ ∀ i (h : i < l.length), i < k → 1 ≤ l[i].label ∧ l[i].label ≤ 1000) (fun iv _ => l.length - (intOf iv).toNat)
    case atStart => exact ⟨0, by omega, rfl, Below.refl _ _, fun i _ h => absurd h (by omega)⟩
    case round =>
      obtain ⟨k, hk, rfl, hb, hall⟩ := hrel
      obtain ⟨wo, rfl⟩ : ∃ wo : World, wo = wr := ⟨_, rfl⟩
      have HB2 := Lib.hid hb; have HA := Lib.hid hall
      have HBW := Lib.hid (HB.out.trans (hb.mono HB.out.size))
      clear hb hall
      have i0 : (0 : Int) ≤ (k : Int) := by omega
      by_cases hlt : k < l.length
      · have i1 : (k : Int) < (l.length : Int) := by omega
        have hTr := HT.out.below HBW.out (Nat.le_refl _)
        have d0 := hTr.c0 k hlt; have d1 := hTr.c1 k hlt
        have HNO := Lib.hid (fun (h : ¬ (1 ≤ l[k].label ∧ l[k].label ≤ 1000)) => CheckN.no (l := l) (er := 2) (fun hok => h (hok.lab _ (List.getElem_mem hlt))) (by omega) (by omega))
        have HYES := Lib.hid (fun (h : 1 ≤ l[k].label ∧ l[k].label ≤ 1000) i (hi : i < l.length) (hik : i < k + 1) => (show 1 ≤ l[i].label ∧ l[i].label ≤ 1000 by
          by_cases e : i = k
          · subst e; exact h
          · exact HA.out i hi (by omega)))
        generalize l[k] = n at *
        have lA := World.block_lt_of_cell? _ _ d0
        clear hTr
        by_cases c1 : 1 ≤ n.label
        · by_cases c2 : n.label ≤ 1000
          · have HAL := Lib.hid (HYES.out ⟨c1, c2⟩)
            have hbx : Below wo.heap.size wo (wo.alloc (.cells #[strV n.text, .int .i64 n.label] 37)) := (by repeat' (first | exact Below.refl _ _ | assumption | refine Below.drew ?_ | refine Below.alloc ?_ (by first | omega | (simp; done) | (simp; omega)) _ | refine Below.setCell ?_ (by first | omega | (simp; done) | (simp; omega)) _))
            have HBX := Lib.hid (HB2.out.trans (hbx.mono HB2.out.size))
            clear HYES HNO hbx
            go_wp2_with fail
            go_roundw
            case rel => exact ⟨k + 1, by omega, by go_num, HBX.out, HAL.out⟩
            case measure => simp [intOf]; omega
          · have HF := Lib.hid (HNO.out (fun h => c2 h.2))
            have hbx : Below wo.heap.size wo (wo.alloc (.cells #[strV n.text, .int .i64 n.label] 37)) := (by repeat' (first | exact Below.refl _ _ | assumption | refine Below.drew ?_ | refine Below.alloc ?_ (by first | omega | (simp; done) | (simp; omega)) _ | refine Below.setCell ?_ (by first | omega | (simp; done) | (simp; omega)) _))
            have HBX := Lib.hid (HBW.out.trans (hbx.mono HBW.out.size))
            clear HYES HNO hbx
            go_wp2_with fail
            go_ret
            exact ⟨_, rfl, HF.out, HBX.out⟩
        · have HF := Lib.hid (HNO.out (fun h => c1 h.1))
          have hbx : Below wo.heap.size wo (wo.alloc (.cells #[strV n.text, .int .i64 n.label] 37)) := (by repeat' (first | exact Below.refl _ _ | assumption | refine Below.drew ?_ | refine Below.alloc ?_ (by first | omega | (simp; done) | (simp; omega)) _ | refine Below.setCell ?_ (by first | omega | (simp; done) | (simp; omega)) _))
          have HBX := Lib.hid (HBW.out.trans (hbx.mono HBW.out.size))
          clear HYES HNO hbx
          go_wp2_with fail
          go_ret
          exact ⟨_, rfl, HF.out, HBX.out⟩
      · have HLAB : Hid (∀ n ∈ l, 1 ≤ n.label ∧ n.label ≤ 1000) := Lib.hid fun n hn => by
          obtain ⟨i, hi, rfl⟩ := List.getElem_of_mem hn
          exact HA.out i hi (by omega)
        go_upto_region 11 with fail
        clear HA hk i0 hlt
        go_loopw [32] (fun iv wr => ∃ k : Nat, k ≤ l.length ∧ iv = .int .i64 k ∧ Below w2.heap.size w2 wr ∧ ∀ i (h : i < l.length), i < k → WordOk l[i].text) (fun iv _ => l.length - (intOf iv).toNat)
        case atStart => exact ⟨0, by omega, rfl, HB2.out, fun i _ h => absurd h (by omega)⟩
        case round =>
          clear HBW HB2
          obtain ⟨k, hk, rfl, hb, hall⟩ := hrel
          obtain ⟨wp, rfl⟩ : ∃ wo : World, wo = wr := ⟨_, rfl⟩
          have HB2 := Lib.hid hb; have HA := Lib.hid hall
          have HBW := Lib.hid (HB.out.trans (hb.mono HB.out.size))
          clear hb hall
          have i0 : (0 : Int) ≤ (k : Int) := by omega
          by_cases hlt : k < l.length
          · have i1 : (k : Int) < (l.length : Int) := by omega
            have hTr := HT.out.below HBW.out (Nat.le_refl _)
            have d0 := hTr.c0 k hlt; have d1 := hTr.c1 k hlt
            have HNO := Lib.hid (fun (h : ¬ WordOk l[k].text) => CheckN.no (l := l) (er := 9) (fun hok => h (hok.word _ (List.getElem_mem hlt))) (by omega) (by omega))
            have HYES := Lib.hid (fun (h : WordOk l[k].text) i (hi : i < l.length) (hik : i < k + 1) => (show WordOk l[i].text by
              by_cases e : i = k
              · subst e; exact h
              · exact HA.out i hi (by omega)))
            generalize l[k] = n at *
            have lA := World.block_lt_of_cell? _ _ d0
            clear hTr
            have hbx : Below wp.heap.size wp (wp.alloc (.cells #[strV n.text, .int .i64 n.label] 37)) := (by repeat' (first | exact Below.refl _ _ | assumption | refine Below.drew ?_ | refine Below.alloc ?_ (by first | omega | (simp; done) | (simp; omega)) _ | refine Below.setCell ?_ (by first | omega | (simp; done) | (simp; omega)) _))
            have HBX := Lib.hid hbx
            have HWD := Lib.hid (fun W => word_name n.text W)
            clear hbx
            go_wp2_with fail
            refine (HWD.out _).mono ?_; rintro e w4 ⟨rfl, b4⟩
            have HBZ := Lib.hid (Below.step HBX.out b4)
            clear b4 HWD HBX d0 d1
            cases hwb : wordB n.text with
            | true =>
              have HAL := Lib.hid (HYES.out (wordB_iff.1 hwb))
              have HB3 := Lib.hid (HB2.out.trans (HBZ.out.mono HB2.out.size))
              clear HYES HNO hwb
              go_wp2_with fail
              go_roundw
              case rel => exact ⟨k + 1, by omega, by go_num, HB3.out, HAL.out⟩
              case measure => simp [intOf]; omega
            | false =>
              have HF := Lib.hid (HNO.out (fun h => by rw [wordB_yes h] at hwb; cases hwb))
              have HB3 := Lib.hid (HBW.out.trans (HBZ.out.mono HBW.out.size))
              clear HYES HNO hwb
              go_wp2_with fail
              go_ret
              exact ⟨_, rfl, HF.out, HB3.out⟩
          · have HWRD : Hid (∀ n ∈ l, WordOk n.text) := Lib.hid fun n hn => by
              obtain ⟨i, hi, rfl⟩ := List.getElem_of_mem hn
              exact HA.out i hi (by omega)
            have hI := HI.out.keep HB2.out
            have hlt1 := (imapN_len (l.map (·.text)) l.length (by simp)); have hll1 := (imapN_len (l.map (·.label)) l.length (by simp))
            have hL1 := fun ty => run_len_x (P := Tryd.prog) hI.tm Tryd.underlying100 ty
            have hL2 := fun ty => run_len_x (P := Tryd.prog) hI.lm Tryd.underlying101 ty
            have kx := hI.blk.cell; have lx := hI.blk.lt
            have e2 : (l.map (·.text)).take l.length = l.map (·.text) := List.take_of_length_le (by simp)
            have e3 : (l.map (·.label)).take l.length = l.map (·.label) := List.take_of_length_le (by simp)
            rw [e2] at hlt1; rw [e3] at hll1
            clear hI e2 e3
            generalize (imapN (l.map (·.text)) l.length).length = n1 at *
            generalize (imapN (l.map (·.label)) l.length).length = n2 at *
            obtain ⟨p1, p2⟩ := hlt1; obtain ⟨p3, p4⟩ := hll1
            have HP2 := Lib.hid p2; have HP4 := Lib.hid p4
            clear p2 p4
            by_cases q1 : n1 = l.length
            · by_cases q2 : n2 = l.length
              · have HF : Hid (CheckN l 0) := Lib.hid ⟨⟨fun _ => ⟨hn, HLAB.out, HWRD.out, HP2.out.1 q1, HP4.out.1 q2⟩, fun _ => rfl⟩, by omega, by omega⟩
                have g1 : ¬ (n1 : Int) < (l.length : Int) := by omega
                have g2 : ¬ (n2 : Int) < (l.length : Int) := by omega
                clear q1 q2
                go_wp2_with fail
                go_ret
                exact ⟨_, rfl, HF.out, HBW.out⟩
              · have HF := Lib.hid (CheckN.no (l := l) (er := 10) (fun hok => q2 (HP4.out.2 hok.labs)) (by omega) (by omega))
                have g1 : ¬ (n1 : Int) < (l.length : Int) := by omega
                have g2 : (n2 : Int) < (l.length : Int) := by omega
                clear q1 q2
                go_wp2_with fail
                go_ret
                exact ⟨_, rfl, HF.out, HBW.out⟩
            · have HF := Lib.hid (CheckN.no (l := l) (er := 10) (fun hok => q1 (HP2.out.2 hok.text)) (by omega) (by omega))
              have g1 : (n1 : Int) < (l.length : Int) := by omega
              clear q1
              go_wp2_with fail
              go_ret
              exact ⟨_, rfl, HF.out, HBW.out⟩
end Go.Proofs.YtkmnacchiagipaaDoor
