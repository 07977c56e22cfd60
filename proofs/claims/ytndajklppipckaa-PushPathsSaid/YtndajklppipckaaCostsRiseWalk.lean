/- The walk of CostsRise. -/
import Derived.Test.YtndajklppipckaaCosts
import Derived.Test.YtndajklppipckaaCostsLaw
import Derived.Test.YtndajklppipckaaLeast
import Derived.Test.YtndajklppipckaaMade
import Derived.Test.YtndajklppipckaaValid
import Derived.Test.YtndajklppipckaaPick
import Derived.BigQuiet
namespace Go.Proofs.Ytndajklppipckaa
open Go.RowKit

theorem costs_small (v : Value) (m : MachL) (n : Nat) (w : World) (hm : MachAt w v m) (hv : Valid m) (hs : Small m) (h0 : 0 ≤ m.start) (hn : n ≤ 20) (hl : m.states.length ≤ 20) (hA : ∀ s ∈ m.states, s.arcs.length ≤ 20) :
    Calls Try.prog 28 #[v, .int .i64 n] w fun e w' => ∃ ov, e = .returned (.tuple #[ov, .int .i64 0]) ∧ CostsR m n w.heap.size w' ov ∧ Below w.heap.size w w' := by
  have h1 : n * m.states.length ≤ 20 * 20 := Nat.mul_le_mul hn hl
  refine Costs_any v m n 1000000 1000000 20 w hm hv (ends_small hv hs) h0 hn (by omega) (by omega) (fun s hs' a ha => (hs s hs').2 a ha) (fun s hs' hf => ((hs s hs').1).resolve_left hf) hA (by omega) (by omega)
theorem CostsR.open {m : MachL} {n base : Nat} {w : World} {ov : Value} (h : CostsR m n base w ov) : ∃ (A : Option Addr) (c : Nat) (ps : List (List Nat)) (l : List Int), ov = .slice A l.length c ∧ l.length ≤ 9223372036854775807 ∧ Rd w A l.length 1 (icells l) ∧ l = ps.map (wcost m m.start.toNat) ∧ Cheap (Whole m m.start.toNat) (wcost m m.start.toNat) n ps := by
  obtain ⟨ps, h1, h2⟩ := h
  obtain ⟨A, c, rfl, h3, h4⟩ := own_form h2
  refine ⟨A, c, ps, _, by rw [List.length_map], ?_, ?_, rfl, h1⟩
  · rw [List.length_map]; unfold maxLen at h4; omega
  · rw [List.length_map]; exact Rd.of_own h2

namespace costsRise
set_option maxRecDepth 100000 in
set_option maxHeartbeats 8000000 in
theorem walk {w : World} (v : Value) (r : RawL) (hr : RawArg w v r) (x : Int) (hx : (Lit.int .i64 x).wf = true) :
    Calls Try.prog 8 #[v, .int .i64 x] w fun e w' => e = .returned (.bool true) ∧ Below w.heap.size w w' := by
  have hm : Valid (mkMach r 6 false) := valid_made r 6 false (by omega) (by omega)
  have hsm : Small (mkMach r 6 false) := small_made r 6 false
  have hst0 : 0 ≤ (mkMach r 6 false).start := pick_lo _ _ (by unfold mkN; omega)
  have hl6 : (mkMach r 6 false).states.length ≤ 20 := by have := mkMach_len r 6 false (by omega); unfold mkN at this; omega
  have hA4 : ∀ s ∈ (mkMach r 6 false).states, s.arcs.length ≤ 20 := fun s hs => by have := mk_arcs_small r 6 false s hs; omega
  have HMD := Lib.hid (fun W hb => made_any v r 6 false W (hr.below hb) (by omega) (by omega))
  obtain ⟨hst, hlen, A, c, rfl, hN⟩ := hr
  generalize mkMach r 6 false = m at *
  obtain ⟨n, hn⟩ : ∃ n : Nat, pick x 20 = n := ⟨(pick x 20).toNat, by have := pick_lo x 20 (by omega); omega⟩
  have hn19 : n ≤ 19 := by have := pick_hi x 20 (by omega); omega
  obtain ⟨x1, x2⟩ := wf_i64 hx
  have PK := Lib.hid (fun W => picked_any x 20 W x1 x2 (by omega) (by omega))
  rw [hn] at PK
  have HV := Lib.hid hm; have HSM := Lib.hid hsm; have HST := Lib.hid hst0; have HL6 := Lib.hid hl6; have HA4 := Lib.hid hA4
  clear hN hst hlen hm hsm hst0 hx hl6 hA4 hn x1 x2
  go_enter Try.func8, Try.ntmps8
  go_wp2_with fail
  refine (HMD.out _ (by repeat' (first | exact Below.refl _ _ | assumption | refine Below.drew ?_ | refine Below.alloc ?_ (by first | omega | (simp; done) | (simp; omega)) _ | refine Below.setCell ?_ (by first | omega | (simp; done) | (simp; omega)) _))).mono ?_; rintro e w1 ⟨mv, rfl, o1, r1⟩
  obtain ⟨A3, c3, rfl, s1⟩ := own_open o1
  have b1 : Below w.heap.size w w1 := ((by repeat' (first | exact Below.refl _ _ | assumption | refine Below.drew ?_ | refine Below.alloc ?_ (by first | omega | (simp; done) | (simp; omega)) _ | refine Below.setCell ?_ (by first | omega | (simp; done) | (simp; omega)) _)) : Below w.heap.size w _).trans (r1.mono (by simp))
  have X1 := Lib.hid (MBox.new (c := c3) s1)
  have b1a := b1.alloc b1.size (.cells #[.int .i64 m.start, .slice A3 m.states.length c3] 31)
  clear o1 r1 HMD s1
  have hwr : IntKind.i64.wrap (↑n + 1) = ↑n + 1 := IntWalk.i64_in _ (by omega)
  have HN1 : Hid (((n + 1 : Nat) : Int) = (↑n : Int) + 1) := Lib.hid (by omega)
  go_wp2_with fail
  refine (PK.out _).mono ?_; rintro e w1b ⟨rfl, rfl⟩
  generalize w1.alloc (.cells #[.int .i64 m.start, .slice A3 m.states.length c3] 31) = w1c at *
  generalize w1.heap.size = mb at *
  have k1 := X1.out.blk.cell; have l1 := X1.out.blk.lt
  go_wp2_with fail
  refine (costs_small _ m n _ X1.out.mach HV.out HSM.out HST.out (by omega) HL6.out HA4.out).mono ?_; rintro e w2 ⟨ov1, rfl, R1, r2⟩
  obtain ⟨A5, c5, ps, la, rfl, hla, rd1, HLA, HPS⟩ := R1.open
  have b2 : Below w.heap.size w w2 := b1a.trans (r2.mono b1a.size)
  have X2 := Lib.hid (X1.out.step r2)
  have RD1 := Lib.hid rd1
  have HLA' := Lib.hid HLA; have HPS' := Lib.hid HPS
  have k2 := X2.out.blk.cell; have l2 := X2.out.blk.lt
  clear R1 r2 X1 k1 l1 rd1 HLA HPS b1 b1a
  go_wp2_with fail
  have CS2 := costs_small _ m (n + 1) _ X2.out.mach HV.out HSM.out HST.out (by omega) HL6.out HA4.out
  rw [HN1.out] at CS2
  refine CS2.mono ?_; clear CS2; rintro e w3 ⟨ov2, rfl, R2, r3⟩
  obtain ⟨A6, c6, qs, lb, rfl, hlb, rd2, HLB, HQS⟩ := R2.open
  have b3 : Below w.heap.size w w3 := b2.trans (r3.mono b2.size)
  have X3 := Lib.hid (X2.out.step r3)
  have RD1b := Lib.hid (RD1.out.below r3 rfl); have RD2 := Lib.hid rd2
  have HLB' := Lib.hid HLB; have HQS' := Lib.hid HQS
  have k3 := X3.out.blk.cell; have l3 := X3.out.blk.lt
  clear R2 r3 X2 k2 l2 rd2 HLB HQS b2 RD1
  go_wp2_with fail
  refine (Least_any _ m _ X3.out.mach HV.out (ends_small HV.out HSM.out) HST.out).mono ?_; rintro e w4 ⟨D, rfl, hD, r4⟩
  have b4 : Below w.heap.size w w4 := b3.trans (r4.mono b3.size)
  have Ra := Lib.hid (RD1b.out.below r4 rfl); have Rb := Lib.hid (RD2.out.below r4 rfl)
  have hsort : ∀ i (hi : i + 1 < lb.length), lb[i]'(Nat.lt_of_succ_lt hi) ≤ lb[i + 1] := by
    have h : lb.Pairwise (fun x y => x ≤ y) := by rw [HLB'.out]; exact List.pairwise_map.2 HQS'.out.srt
    intro i hi
    exact List.pairwise_iff_getElem.1 h i (i + 1) _ _ (by omega)
  have hrise := HPS'.out.rise HQS'.out
  rw [← HLA'.out, ← HLB'.out] at hrise
  have hq1 := HQS'.out.len
  have hqb : lb.length = qs.length := by rw [HLB'.out, List.length_map]
  have hab : la.length = min n lb.length := by rw [hrise, List.length_take]
  have hfirst : (D = 1000000001 ∧ lb = []) ∨ (D ≠ 1000000001 ∧ ∃ l, lb = D :: l) := by
    rcases cheap_dist HV.out HQS'.out (by omega) hD with ⟨h1, h2⟩ | ⟨h1, p, qs', h2, h3⟩
    · left; exact ⟨h1, by rw [HLB'.out, h2]; rfl⟩
    · right; exact ⟨h1, qs'.map _, by rw [HLB'.out, h2, List.map_cons, h3]⟩
  have HSORT := Lib.hid hsort; have HRISE := Lib.hid hrise
  clear hsort hrise HLA' HLB' HPS' HQS' hD r4 RD1b RD2 X3 k3 l3 b3
  have f1 : ¬ (n : Int) < (la.length : Int) := by omega
  have f2 : ¬ ((n : Int) + 1) < (lb.length : Int) := by omega
  have f3 : ¬ ((lb.length : Int)) < (la.length : Int) := by omega
  have f4 : ¬ ((la.length : Int) + 1) < (lb.length : Int) := by omega
  have hwa : IntKind.i64.wrap (↑la.length + 1) = ↑la.length + 1 := IntWalk.i64_in _ (by omega)
  have f5 : ((lb.length : Int) == (la.length : Int) + 1) = true ∧ ¬ (la.length : Int) < n ∨ ((lb.length : Int) == (la.length : Int) + 1) = false := by
    by_cases h : (lb.length : Int) = (la.length : Int) + 1
    · left; exact ⟨by simpa using h, by omega⟩
    · right; simpa using h
  have F5 := Lib.hid f5
  clear f5 hab hqb hq1
  go_upto_region 6 with fail
  go_cut [87] (fun bv wx => bv = .bool false ∧ wx = w4)
  case first =>
    rcases F5.out with ⟨e1, e2⟩ | e1
    all_goals
      go_wp2_with fail
      go_meet
      case rel => exact ⟨by simp; omega, rfl⟩
  case rest =>
    obtain ⟨rfl, rfl⟩ := hcut
    obtain ⟨w4, rfl⟩ : ∃ wb : World, wb = wc := ⟨_, rfl⟩
    have F6 : Hid ((lb.length = 0 ∧ D = 1000000001) ∨ (0 < lb.length ∧ (D == 1000000001) = false ∧ lb[0]? = some D)) := Lib.hid (by
      rcases hfirst with ⟨h1, h2⟩ | ⟨h1, l, h2⟩
      · left; rw [h2]; exact ⟨rfl, h1⟩
      · right; rw [h2]; exact ⟨by simp, by simpa using h1, rfl⟩)
    clear hfirst f1 f2 f3 f4 hwa F5
    go_upto_region 8 with fail
    go_cut [105] (fun bv wx => bv = .bool false ∧ wx = w4)
    case first =>
      rcases F6.out with ⟨e1, e2⟩ | ⟨e1, e2, e3⟩
      · go_wp2_with fail
        go_meet
        case rel => exact ⟨by simp, rfl⟩
      · have e4 : ((lb.length : Int) == 0) = false := beq_eq_false_iff_ne.2 (by omega)
        have e5 : (0 : Int) < (lb.length : Int) := by omega
        have c0 : w4.cell? ⟨blk A6, ofs A6, none⟩ = some (.int .i64 D) := Rb.out.at' (j := 0) (show (icells lb)[0]? = some (.int .i64 D) by simp [icells, e3])
        have rdb := Rb.out.rdy
        clear e3
        go_wp2_with fail
        go_meet
        case rel => exact ⟨by simp, rfl⟩
    case rest =>
      obtain ⟨rfl, rfl⟩ := hcut
      obtain ⟨w4, rfl⟩ : ∃ wb : World, wb = wc := ⟨_, rfl⟩
      clear F6
      go_upto_region 11 with fail
      have rda := Ra.out.rdy; have rdb := Rb.out.rdy
      go_loopw [13] (fun iv wx => ∃ i : Nat, i ≤ lb.length ∧ iv = .int .i64 i ∧ Below w4.heap.size w4 wx) (fun iv _ => lb.length - (intOf iv).toNat)
      case atStart => exact ⟨0, by omega, rfl, Below.refl _ _⟩
      case round =>
        obtain ⟨i, hi, rfl, hbl⟩ := hrel
        by_cases hlt : i < lb.length
        · have i1 : (i : Int) < (lb.length : Int) := by omega
          have i0 : (0 : Int) ≤ (i : Int) := by omega
          have hwi : IntKind.i64.wrap (↑i + 1) = ↑i + 1 := IntWalk.i64_in _ (by omega)
          have hwj : IntKind.i64.wrap (↑i - 1) = ↑i - 1 := IntWalk.i64_in _ (by omega)
          have cb := cell_keep hbl (Nat.le_refl _) (Rb.out.at' (show (icells lb)[i]? = some (.int .i64 lb[i]) by simp [icells, hlt]))
          go_upto_region 13 with fail
          go_cut [142] (fun bv wx => bv = .bool false ∧ Below wr.heap.size wr wx)
          case first =>
            have hA : decide ((i : Int) < (la.length : Int)) = true ∧ wr.cell? ⟨blk A5, ofs A5 + i, none⟩ = some (.int .i64 lb[i]) ∨ decide ((i : Int) < (la.length : Int)) = false := by
              by_cases h : i < la.length
              · left
                refine ⟨by simp; omega, cell_keep hbl (Nat.le_refl _) (Ra.out.at' ?_)⟩
                have : la[i] = lb[i] := by simp only [HRISE.out, List.getElem_take]
                rw [← this]
                simp [icells, h]
              · right; simp; omega
            have hB : (decide ((0 : Int) < (i : Int)) = true ∧ ∃ (z : Int) (j : Nat), ¬ lb[i] < z ∧ wr.cell? ⟨blk A6, ofs A6 + j, none⟩ = some (.int .i64 z) ∧ (i : Int) - 1 = j ∧ (0 : Int) ≤ j ∧ (j : Int) < (lb.length : Int)) ∨ decide ((0 : Int) < (i : Int)) = false := by
              by_cases h : 0 < i
              · left
                obtain ⟨j, rfl⟩ : ∃ j, i = j + 1 := ⟨i - 1, by omega⟩
                exact ⟨by simp, lb[j], j, by have := HSORT.out j hlt; omega, cell_keep hbl (Nat.le_refl _) (Rb.out.at' (by simp [icells])), by omega, by omega, by omega⟩
              · right; simp; omega
            generalize lb[i] = y at *
            clear hwi
            have e9 : decide ((0 : Int) < (i : Int)) = decide (0 < i) := by rw [decide_eq_decide]; omega
            have e8 : decide ((i : Int) < (la.length : Int)) = decide (i < la.length) := by rw [decide_eq_decide]; omega
            rw [e9] at hB; rw [e8] at hA
            clear e8 e9
            rcases hA with ⟨h1, ca⟩ | h1
            · have g1 : (i : Int) < (la.length : Int) := by have := of_decide_eq_true h1; omega
              rcases hB with ⟨h2, z, j, hz, cz, hj, j0, j1⟩ | h2
              · go_quiet (fail)
                go_wp2_with fail
                go_meet
                case rel => first | exact ⟨rfl, below_drewN _ _⟩ | exact ⟨by simp; omega, below_drewN _ _⟩
              · go_quiet (fail)
                go_wp2_with fail
                go_meet
                case rel => first | exact ⟨rfl, below_drewN _ _⟩ | exact ⟨by simp; omega, below_drewN _ _⟩
            · rcases hB with ⟨h2, z, j, hz, cz, hj, j0, j1⟩ | h2
              · go_quiet (fail)
                go_wp2_with fail
                go_meet
                case rel => first | exact ⟨rfl, below_drewN _ _⟩ | exact ⟨by simp; omega, below_drewN _ _⟩
              · go_quiet (fail)
                go_wp2_with fail
                go_meet
                case rel => first | exact ⟨rfl, below_drewN _ _⟩ | exact ⟨by simp; omega, below_drewN _ _⟩
          case rest =>
            obtain ⟨rfl, hb2⟩ := hcut
            clear cb
            go_wp2_with fail
            go_roundw
            case rel => exact ⟨i + 1, by omega, by go_num, hbl.trans (hb2.mono hbl.size)⟩
            case measure => simp [intOf]; omega
        · obtain rfl : i = lb.length := by omega
          have j1 : ¬ (↑lb.length : Int) < ↑lb.length := by omega
          go_wp2_with fail
          go_ret
          exact ⟨rfl, b4.trans (hbl.mono b4.size)⟩
end costsRise
end Go.Proofs.Ytndajklppipckaa
