/- The walk of MergedLeast. -/
import Derived.Test.YtlfjccgbngnjhaaMerged
import Derived.Test.YtlfjccgbngnjhaaCountArcs
import Derived.Test.YtlfjccgbngnjhaaValid
import Derived.Test.YtlfjccgbngnjhaaRemovePlain
import Derived.BigQuiet
import Derived.Deep.QuietTactic
namespace Go.Proofs.Ytlfjccgbngnjhaa
open Go.RowKit

/-- b is alike a but for the weight, and not heavier -/
def hitM (a b : ArcL) : Bool := b.inn == a.inn && b.out == a.out && b.to == a.to && decide (b.wt ≤ a.wt)
theorem hitM_iff {a b : ArcL} : hitM a b = true ↔ alike3 b a = true ∧ b.wt ≤ a.wt := by
  unfold hitM alike3; simp [and_assoc]
def hits (a : ArcL) (l : List ArcL) (k : Nat) : Nat := ((l.take k).filter (hitM a)).length
theorem hits_le (a : ArcL) (l : List ArcL) (k : Nat) : hits a l k ≤ l.length := Nat.le_trans (List.length_filter_le _ _) (List.length_take_le' _ _)
theorem hits_yes {a : ArcL} {l : List ArcL} {k : Nat} (h : k < l.length) (hh : hitM a l[k] = true) : hits a l (k + 1) = hits a l k + 1 := by
  unfold hits; rw [List.take_succ_eq_append_getElem h, List.filter_append]; simp [hh]
theorem hits_no {a : ArcL} {l : List ArcL} {k : Nat} (h : k < l.length) (hh : hitM a l[k] = false) : hits a l (k + 1) = hits a l k := by
  unfold hits; rw [List.take_succ_eq_append_getElem h, List.filter_append]; simp [hh]
theorem one_of : ∀ {l : List ArcL} {p : ArcL → Bool}, l.Pairwise lt3 → (∀ x ∈ l, ∀ y ∈ l, p x = true → p y = true → x = y) → (∃ x ∈ l, p x = true) → (l.filter p).length = 1
  | [], _, _, _, ⟨x, hx, _⟩ => by cases hx
  | a :: l, p, hp, hu, he => by
    obtain ⟨h1, h2⟩ := List.pairwise_cons.1 hp
    cases ha : p a with
    | true =>
      have : l.filter p = [] := by
        rw [List.filter_eq_nil_iff]
        intro x hx hpx
        have e := hu a (by simp) x (List.mem_cons_of_mem _ hx) ha hpx
        have := h1 x hx
        rw [← e] at this
        exact lt3_irr this
      simp [ha, this]
    | false =>
      obtain ⟨x, hx, hpx⟩ := he
      rcases List.mem_cons.1 hx with e | hx
      · rw [e, ha] at hpx; cases hpx
      · have := one_of h2 (fun x hx y hy => hu x (List.mem_cons_of_mem _ hx) y (List.mem_cons_of_mem _ hy)) ⟨x, hx, hpx⟩
        simpa [List.filter_cons, ha] using this
theorem hits_one {l : List ArcL} {a : ArcL} (h : a ∈ l) : hits a (mergeL l) (mergeL l).length = 1 := by
  unfold hits
  rw [List.take_length]
  refine one_of (mergeL_lt l) (fun x hx y hy h1 h2 => ?_) ?_
  · exact row_one (mergeL_lt l) hx hy (alike3_trans (hitM_iff.1 h1).1 (alike3_symm (hitM_iff.1 h2).1))
  · obtain ⟨b, hb, h1, h2⟩ := mergeL_light h
    exact ⟨b, hb, hitM_iff.2 ⟨alike3_symm h1, h2⟩⟩
theorem arr_get2 (f : List ArcL → List ArcL) (m : MachL) (k : Nat) (h : k < m.states.length) (h' : k < (arrM f m).states.length) : (arrM f m).states[k] = ⟨m.states[k].final, f m.states[k].arcs⟩ := by simp [arrM]
theorem bel_drN (w : World) (n : Nat) : Below w.heap.size w (w.drewN n) := ⟨rfl, rfl, rfl, Nat.le_refl _, fun _ _ => rfl⟩

namespace mergedLeast
set_option maxRecDepth 100000 in
set_option maxHeartbeats 8000000 in
theorem walk {w : World} (v : Value) (r : RawL) (hr : RawArg w v r) :
    Calls Try.prog 4 #[v] w fun e w' => e = .returned (.bool true) ∧ Below w.heap.size w w' := by
  have hm : Valid (mkMach r 6 false) := valid_made r 6 false (by omega) (by omega)
  have HMD := Lib.hid (fun W hb => made_any v r 6 false W (hr.below hb) (by omega) (by omega))
  obtain ⟨hst, hlen, A, c, rfl, hN⟩ := hr
  generalize mkMach r 6 false = m at *
  have htl := arrM_len mergeL m
  have hget := fun k h h' => arr_get2 mergeL m k h h'
  have hml := valid_arcs_le hm
  have hsz := hm.size
  have HV := Lib.hid hm; have HGET := Lib.hid hget; have HML := Lib.hid hml; have HTL := Lib.hid htl
  have HG := Lib.hid (fun va W h => Merged_any va m W h hm)
  clear hN hst hlen hm htl hget hml
  generalize arrM mergeL m = t at *
  go_enter Try.func4, Try.ntmps4
  go_wp2_with fail
  refine (HMD.out _ (by repeat' (first | exact Below.refl _ _ | assumption | refine Below.drew ?_ | refine Below.alloc ?_ (by first | omega | (simp; done) | (simp; omega)) _ | refine Below.setCell ?_ (by first | omega | (simp; done) | (simp; omega)) _))).mono ?_; rintro e w1 ⟨mv, rfl, o1, r1⟩
  obtain ⟨A1, c1, rfl, s1⟩ := own_open o1
  have b1 : Below w.heap.size w w1 := ((Below.refl _ _).alloc (Nat.le_refl _) _).trans (r1.mono (by simp))
  have X1 := Lib.hid (MBox.new (c := c1) s1)
  have b1a := b1.alloc b1.size (.cells #[.int .i64 m.start, .slice A1 m.states.length c1] 27)
  clear o1 r1 HMD s1
  go_wp2_with fail
  refine (HG.out _ _ X1.out.mach).mono ?_; rintro e w2 ⟨mv2, rfl, o2, r2⟩
  obtain ⟨A2, c2, rfl, s2⟩ := own_open o2
  have b2 : Below w.heap.size w w2 := b1a.trans (r2.mono b1a.size)
  have X2 := Lib.hid ((X1.out.step r2).alloc (.cells #[.int .i64 t.start, .slice A2 t.states.length c2] 27))
  have Y2 := Lib.hid (MBox.new (c := c2) s2)
  have b2a := b2.alloc b2.size (.cells #[.int .i64 t.start, .slice A2 t.states.length c2] 27)
  clear o2 r2 s2 X1 b1a
  go_upto_region 3 with fail
  generalize w2.alloc (.cells #[.int .i64 t.start, .slice A2 t.states.length c2] 27) = w5 at *
  generalize w1.heap.size = bm at *
  generalize w2.heap.size = bt at *
  have k5x := X2.out.blk.cell; have l5x := X2.out.blk.lt; have k5 := Y2.out.blk.cell; have l5 := Y2.out.blk.lt
  have htl := HTL.out
  go_upto_region 6 with fail
  clear k5 l5 k5x l5x htl
  go_loopw [6] (fun i wr => ∃ k : Nat, k ≤ m.states.length ∧ i = .int .i64 k ∧ Below w5.heap.size w5 wr) (fun i _ => m.states.length - (intOf i).toNat)
  case atStart => exact ⟨0, by omega, rfl, Below.refl _ _⟩
  case round =>
    obtain ⟨k, hk, rfl, bel⟩ := hrel
    obtain ⟨wo, rfl⟩ : ∃ wo : World, wo = wr := ⟨_, rfl⟩
    have bw := b2a.trans (bel.mono b2a.size)
    have XO := Lib.hid (X2.out.step bel)
    have YO := Lib.hid (Y2.out.step bel)
    have kx0 := XO.out.blk.cell; have kxl := XO.out.blk.lt; have ky0 := YO.out.blk.cell; have kyl := YO.out.blk.lt
    have i0 : (0 : Int) ≤ ↑k := by omega
    by_cases hlt : k < m.states.length
    · have hlt' : k < t.states.length := by rw [HTL.out]; exact hlt
      have hg := HGET.out k hlt hlt'
      obtain ⟨BB, q, d1, hB⟩ := XO.out.at_.c1 k hlt
      obtain ⟨B', q', e1, hB'⟩ := YO.out.at_.c1 k hlt'
      rw [hg] at e1 hB'
      simp only at e1 hB'
      have hll := HML.out m.states[k] (List.getElem_mem hlt)
      have rA1 := XO.out.at_.rdy; have rA2 := YO.out.at_.rdy
      generalize m.states[k] = s at *
      have HB := Lib.hid hB; have HB' := Lib.hid hB'
      have rB := hB.rdy; have rB' := hB'.rdy
      clear hg hB hB'
      have i1 : (↑k : Int) < ↑m.states.length := by omega
      have i2 : (↑k : Int) < ↑t.states.length := by omega
      generalize hl : s.arcs = l at *
      have HH := Lib.hid (fun a (ha : a ∈ l) => hits_one ha)
      have HHL := Lib.hid (fun a => hits_le a (mergeL l))
      have HME := Lib.hid (fun a (ha : a ∈ mergeL l) => mergeL_mem ha)
      have hmll := mergeL_len l
      generalize mergeL l = ml at *
      generalize hn : l.length = n at *
      generalize hn2 : ml.length = n2 at *
      have HN := Lib.hid hn; have HN2 := Lib.hid hn2
      clear hn hn2 hl hlt'
      go_upto_region 11 with fail
      clear kx0 kxl ky0 kyl d1 e1
      go_loopw [9] (fun i wr => ∃ j : Nat, j ≤ n2 ∧ i = .int .i64 j ∧ Below wo.heap.size wo wr) (fun i _ => n2 - (intOf i).toNat)
      case atStart => exact ⟨0, by omega, rfl, Below.refl _ _⟩
      case round =>
        obtain ⟨j, hj, rfl, bi⟩ := hrel
        obtain ⟨wi, rfl⟩ : ∃ wi : World, wi = wr := ⟨_, rfl⟩
        have j0 : (0 : Int) ≤ ↑j := by omega
        by_cases hj2 : j < n2
        · have hr := HB'.out.below bi (Nat.le_refl _)
          have hjl : j < ml.length := by rw [HN2.out]; exact hj2
          have a0 := hr.c0 j hjl; have a1 := hr.c1 j hjl; have a2 := hr.c2 j hjl; have a3 := hr.c3 j hjl
          have HC1 := Lib.hid (fun W (hw : Below wi.heap.size wi W) => count_any BB q l ml[j] W ((HB.out.below bi (Nat.le_refl _)).below hw (Nat.le_refl _)) (by rw [HN.out]; exact hll))
          rw [HN.out] at HC1
          have hpos : 0 < l.count ml[j] := List.count_pos_iff.2 (HME.out _ (List.getElem_mem hjl))
          have hcl : l.count ml[j] ≤ l.length := List.count_le_length
          generalize l.count ml[j] = cn at *
          generalize ml[j] = x at *
          have j1 : (↑j : Int) < ↑n2 := by omega
          have hc0 : ((cn : Int) == 0) = false := by simp; omega
          clear hr
          go_wp2_with fail
          refine (HC1.out _ (by repeat' (first | exact Below.refl _ _ | assumption | refine Below.drew ?_ | refine Below.alloc ?_ (by first | omega | (simp; done) | (simp; omega)) _ | refine Below.setCell ?_ (by first | omega | (simp; done) | (simp; omega)) _))).mono ?_; rintro e w6 ⟨rfl, b6⟩
          have bz := bi.trans (b6.mono bi.size)
          clear a0 a1 a2 a3 b6
          go_wp2_with fail
          go_roundw
          case rel => exact ⟨j + 1, by omega, by go_num, bz⟩
          case measure => simp [intOf]; omega
        · clear j0
          go_upto_region 16 with fail
          go_loopw [10] (fun i wr => ∃ j : Nat, j ≤ n ∧ i = .int .i64 j ∧ Below wo.heap.size wo wr) (fun i _ => n - (intOf i).toNat)
          case atStart => exact ⟨0, by omega, rfl, bi⟩
          case round =>
            clear bi
            obtain ⟨i, hi, rfl, bi⟩ := hrel
            obtain ⟨wj, rfl⟩ : ∃ wi : World, wi = wr := ⟨_, rfl⟩
            have j0 : (0 : Int) ≤ ↑i := by omega
            by_cases hi2 : i < n
            · have hr := HB.out.below bi (Nat.le_refl _)
              have hil : i < l.length := by rw [HN.out]; exact hi2
              have a0 := hr.c0 i hil; have a1 := hr.c1 i hil; have a2 := hr.c2 i hil; have a3 := hr.c3 i hil
              have hone := HH.out _ (List.getElem_mem hil)
              have HHA := Lib.hid (HHL.out l[i])
              have HHY := Lib.hid (fun k (h : k < ml.length) (hh : hitM l[i] ml[k] = true) => hits_yes h hh)
              have HHN := Lib.hid (fun k (h : k < ml.length) (hh : hitM l[i] ml[k] = false) => hits_no h hh)
              generalize l[i] = a at *
              have HONE := Lib.hid hone
              have j1 : (↑i : Int) < ↑n := by omega
              have A4 := Lib.hid (And.intro a0 (And.intro a1 (And.intro a2 a3)))
              clear hr hone a0 a1 a2 a3
              go_upto_region 20 with fail
              go_loopw [11, 12] (fun mv i wr => ∃ j : Nat, j ≤ n2 ∧ i = .int .i64 j ∧ mv = .int .i64 (hits a ml j : Nat) ∧ Below wj.heap.size wj wr) (fun _ i _ => n2 - (intOf i).toNat)
              case atStart => exact ⟨0, by omega, rfl, rfl, Below.refl _ _⟩
              case round =>
                obtain ⟨j, hj, rfl, rfl, bk⟩ := hrel
                obtain ⟨wk, rfl⟩ : ∃ wi : World, wi = wr := ⟨_, rfl⟩
                have y0 : (0 : Int) ≤ ↑j := by omega
                by_cases hj2 : j < n2
                · have hr := HB'.out.below (bi.trans (bk.mono bi.size)) (Nat.le_refl _)
                  have hjl : j < ml.length := by rw [HN2.out]; exact hj2
                  have e0 := hr.c0 j hjl; have e1 := hr.c1 j hjl; have e2 := hr.c2 j hjl; have e3 := hr.c3 j hjl
                  obtain ⟨a0, a1, a2, a3⟩ := A4.out
                  replace a0 := cellB bk a0; replace a1 := cellB bk a1; replace a2 := cellB bk a2; replace a3 := cellB bk a3
                  have HY := Lib.hid (HHY.out j hjl); have HNO := Lib.hid (HHN.out j hjl)
                  have hcb := HHA.out j
                  generalize ml[j] = b at *
                  have HHI : Hid (hitM a b = (b.inn == a.inn && b.out == a.out && b.to == a.to && decide (b.wt ≤ a.wt))) := Lib.hid rfl
                  generalize hitM a b = hm at *
                  have y1 : (↑j : Int) < ↑n2 := by omega
                  generalize hits a ml j = cn at *
                  clear hr hjl
                  by_cases z1 : b.inn = a.inn
                  · have g1 : (b.inn == a.inn) = true := by simpa using z1
                    clear z1
                    by_cases z2 : b.out = a.out
                    · have g2 : (b.out == a.out) = true := by simpa using z2
                      clear z2
                      by_cases z3 : b.to = a.to
                      · have g3 : (b.to == a.to) = true := by simpa using z3
                        clear z3
                        by_cases z4 : b.wt ≤ a.wt
                        · have g4 : decide (b.wt ≤ a.wt) = true := by simpa using z4
                          have HNO2 := Lib.hid (HY.out (by rw [HHI.out, g1, g2, g3, g4]; rfl))
                          clear HHI HY HNO
                          go_upto_region 22 with fail
                          go_quiet (fail)
                          have bz := bk.trans ((bel_drN wk nq).mono bk.size)
                          go_wp2_with fail
                          go_roundw
                          case rel => exact ⟨j + 1, by omega, by go_num, by rw [HNO2.out]; go_num, bz⟩
                          case measure => simp [intOf]; omega
                        · have g4 : decide (b.wt ≤ a.wt) = false := by simpa using z4
                          have HNO2 := Lib.hid (HNO.out (by rw [HHI.out, g1, g2, g3, g4]; rfl))
                          clear HHI HY HNO
                          go_upto_region 22 with fail
                          go_quiet (fail)
                          have bz := bk.trans ((bel_drN wk nq).mono bk.size)
                          go_wp2_with fail
                          go_roundw
                          case rel => exact ⟨j + 1, by omega, by go_num, by rw [HNO2.out], bz⟩
                          case measure => simp [intOf]; omega
                      · have g3 : (b.to == a.to) = false := by simpa using z3
                        clear z3
                        have HNO2 := Lib.hid (HNO.out (by rw [HHI.out, g1, g2, g3]; rfl))
                        clear HHI HY HNO
                        go_upto_region 22 with fail
                        go_quiet (fail)
                        have bz := bk.trans ((bel_drN wk nq).mono bk.size)
                        go_wp2_with fail
                        go_roundw
                        case rel => exact ⟨j + 1, by omega, by go_num, by rw [HNO2.out], bz⟩
                        case measure => simp [intOf]; omega
                    · have g2 : (b.out == a.out) = false := by simpa using z2
                      clear z2
                      have HNO2 := Lib.hid (HNO.out (by rw [HHI.out, g1, g2]; rfl))
                      clear HHI HY HNO
                      go_upto_region 22 with fail
                      go_quiet (fail)
                      have bz := bk.trans ((bel_drN wk nq).mono bk.size)
                      go_wp2_with fail
                      go_roundw
                      case rel => exact ⟨j + 1, by omega, by go_num, by rw [HNO2.out], bz⟩
                      case measure => simp [intOf]; omega
                  · have g1 : (b.inn == a.inn) = false := by simpa using z1
                    clear z1
                    have HNO2 := Lib.hid (HNO.out (by rw [HHI.out, g1]; rfl))
                    clear HHI HY HNO
                    go_upto_region 22 with fail
                    go_quiet (fail)
                    have bz := bk.trans ((bel_drN wk nq).mono bk.size)
                    go_wp2_with fail
                    go_roundw
                    case rel => exact ⟨j + 1, by omega, by go_num, by rw [HNO2.out], bz⟩
                    case measure => simp [intOf]; omega
                · obtain rfl : j = n2 := by omega
                  rw [HONE.out]
                  go_wp2_with fail
                  go_roundw
                  case rel => exact ⟨i + 1, by omega, by go_num, bi.trans (bk.mono bi.size)⟩
                  case measure => simp [intOf]; omega
            · go_wp2_with fail
              go_roundw
              case rel => exact ⟨k + 1, by omega, by go_num, bel.trans (bi.mono bel.size)⟩
              case measure => simp [intOf]; omega
    · have i1 : ¬ (↑k : Int) < ↑m.states.length := by omega
      go_wp2_with fail
      go_ret
      exact ⟨rfl, bw⟩
end mergedLeast
end Go.Proofs.Ytlfjccgbngnjhaa
