/- splits. -/
import Derived.Test.YtphoioejhdjbaaaCuts
import Derived.Test.YtphoioejhdjbaaaMBox
import Derived.Deep.CutBlock
namespace Go.Proofs.Ytphoioejhdjbaaa
open Go.RowKit

/-- what the cuts up to (i, j) cost -/
def TP (a b : MachL) (x y : List Int) (i j : Nat) (c : Int) : Prop := ∃ i' j', i' ≤ x.length ∧ j' ≤ y.length ∧ (i' < i ∨ (i' = i ∧ j' < j)) ∧ ∃ c1 c2, Tot a (x.take i') (y.take j') false c1 ∧ Tot b (x.drop i') (y.drop j') false c2 ∧ c = c1 + c2
theorem TP_zero (a b : MachL) (x y : List Int) (c : Int) : ¬ TP a b x y 0 0 c := by
  rintro ⟨i, j, _, _, h, _⟩; omega
theorem TP_row (a b : MachL) (x y : List Int) (i : Nat) (c : Int) : TP a b x y i (y.length + 1) c ↔ TP a b x y (i + 1) 0 c := by
  constructor
  · rintro ⟨i', j', h1, h2, h3, h4⟩; exact ⟨i', j', h1, h2, by omega, h4⟩
  · rintro ⟨i', j', h1, h2, h3, h4⟩; exact ⟨i', j', h1, h2, by omega, h4⟩
theorem TP_succ (a b : MachL) (x y : List Int) (i j : Nat) (hi : i ≤ x.length) (hj : j ≤ y.length) (c : Int) : TP a b x y i j c ∨ (∃ c1 c2, Tot a (x.take i) (y.take j) false c1 ∧ Tot b (x.drop i) (y.drop j) false c2 ∧ c = c1 + c2) ↔ TP a b x y i (j + 1) c := by
  constructor
  · rintro (⟨i', j', h1, h2, h3, h4⟩ | h)
    · exact ⟨i', j', h1, h2, by omega, h4⟩
    · exact ⟨i, j, hi, hj, by omega, h⟩
  · rintro ⟨i', j', h1, h2, h3, h4⟩
    by_cases e : i' = i ∧ j' = j
    · obtain ⟨rfl, rfl⟩ := e; exact .inr h4
    · exact .inl ⟨i', j', h1, h2, by omega, h4⟩

set_option maxRecDepth 100000 in
set_option maxHeartbeats 8000000 in
theorem splits_any (va vb : Value) (a b : MachL) (x y : List Int) (A1 A2 : Option Addr) (c1 c2 : Nat) (w : World) (ha : MachAt w va a) (hb : MachAt w vb b) (hva : Valid a) (hvb : Valid b)
    (hx : Rd w A1 x.length 1 (icells x)) (hy : Rd w A2 y.length 1 (icells y)) (hlx : x.length ≤ 12) (hly : y.length ≤ 12) (hc1 : x.length ≤ c1) (hc2 : y.length ≤ c2) (hbx : ∀ e ∈ x, 1 ≤ e ∧ e ≤ 1000) (hby : ∀ e ∈ y, 1 ≤ e ∧ e ≤ 1000)
    (hca : ∀ i j, i ≤ x.length → j ≤ y.length → CostOk a i j) (hcb : ∀ i j, i ≤ x.length → j ≤ y.length → CostOk b i j) :
    Calls Try.prog 36 #[va, vb, .slice A1 x.length c1, .slice A2 y.length c2] w fun e w' => ∃ r, e = .returned (.int .i64 r) ∧ 0 ≤ r ∧ BestB (TP a b x y (x.length + 1) 0) r ∧ Below w.heap.size w w' := by
  have CA := Lib.hid (fun i j (hi : i ≤ x.length) (hj : j ≤ y.length) W (hW : Below w.heap.size w W) => cost_n va a (x.take i) (y.take j) A1 A2 i j i j W (by simp; omega) (by simp; omega) (ha.below hW) hva (rd_take (hx.below hW rfl) i hi) (rd_take (hy.below hW rfl) j hj) (by omega) (by omega) (fun e he => hbx e (List.mem_of_mem_take he)) (fun e he => hby e (List.mem_of_mem_take he)) (hca i j hi hj))
  have CB := Lib.hid (fun i j (hi : i ≤ x.length) (hj : j ≤ y.length) W (hW : Below w.heap.size w W) => cost_n vb b (x.drop i) (y.drop j) (loAddr A1 c1 i) (loAddr A2 c2 j) (x.length - i) (y.length - j) (c1 - i) (c2 - j) W (by simp) (by simp) (hb.below hW) hvb (rd_drop (hx.below hW rfl) c1 i hc1 hi) (rd_drop (hy.below hW rfl) c2 j hc2 hj) (by omega) (by omega) (fun e he => hbx e (List.mem_of_mem_drop he)) (fun e he => hby e (List.mem_of_mem_drop he)) (hcb _ _ (by omega) (by omega)))
  have HVA := Lib.hid hva; have HVB := Lib.hid hvb
  obtain ⟨Aa, ca, rfl, -⟩ := ha
  obtain ⟨Ab, cb, rfl, -⟩ := hb
  have B0 : BestB (TP a b x y 0 0) 1000000001 := .inl ⟨rfl, TP_zero a b x y⟩
  have HB0 := Lib.hid B0
  have HROW := Lib.hid (TP_row a b x y); have HSUC := Lib.hid (TP_succ a b x y)
  clear hx hy hva hvb hbx hby hca hcb B0
  generalize a.start = sa at *
  generalize a.states.length = na at *
  generalize b.start = sb at *
  generalize b.states.length = nb at *
  go_enter Try.func36, Try.ntmps36
  go_wp2_with fail
  have X1 : Blk ((w.alloc (.cells #[.int .i64 sa, .slice Aa na ca] 27)).alloc (.cells #[.int .i64 sb, .slice Ab nb cb] 27)) w.heap.size _ _ := (Blk.new _ _ _).alloc _
  have X2 : Blk ((w.alloc (.cells #[.int .i64 sa, .slice Aa na ca] 27)).alloc (.cells #[.int .i64 sb, .slice Ab nb cb] 27)) (w.heap.size + 1) _ _ := Blk.new' (by simp)
  have b1 : Below w.heap.size w ((w.alloc (.cells #[.int .i64 sa, .slice Aa na ca] 27)).alloc (.cells #[.int .i64 sb, .slice Ab nb cb] 27)) := (by repeat' (first | exact Below.refl _ _ | assumption | refine Below.drew ?_ | refine Below.alloc ?_ (by first | omega | (simp; done) | (simp; omega)) _ | refine Below.setCell ?_ (by first | omega | (simp; done) | (simp; omega)) _))
  generalize (w.alloc (.cells #[.int .i64 sa, .slice Aa na ca] 27)).alloc (.cells #[.int .i64 sb, .slice Ab nb cb] 27) = w1 at *
  have HX1 := Lib.hid X1; have HX2 := Lib.hid X2
  have hb1 := b1.size; have l1 := X1.lt; have l2 := X2.lt
  clear X1 X2
  go_loopw [9, 10] (fun bv iv wr => ∃ (i : Nat) (best : Int), i ≤ x.length + 1 ∧ iv = .int .i64 i ∧ bv = .int .i64 best ∧ 0 ≤ best ∧ BestB (TP a b x y i 0) best ∧ Below w1.heap.size w1 wr) (fun _ iv _ => x.length + 1 - (intOf iv).toNat)
  case atStart => exact ⟨0, _, by omega, rfl, rfl, by omega, HB0.out, Below.refl _ _⟩
  case round =>
    obtain ⟨i, best, hi, rfl, rfl, hb0, hbest, bel⟩ := hrel
    have HBE := Lib.hid hbest
    obtain ⟨w2, rfl⟩ : ∃ w2 : World, w2 = wr := ⟨_, rfl⟩
    clear hbest
    by_cases hlt : i ≤ x.length
    · go_wp2_with fail
      go_loopw [9, 11] (fun bv jv wr => ∃ (j : Nat) (best : Int), j ≤ y.length + 1 ∧ jv = .int .i64 j ∧ bv = .int .i64 best ∧ 0 ≤ best ∧ BestB (TP a b x y i j) best ∧ Below w1.heap.size w1 wr) (fun _ jv _ => y.length + 1 - (intOf jv).toNat)
      case atStart => exact ⟨0, _, by omega, rfl, rfl, hb0, HBE.out, bel⟩
      case round =>
        obtain ⟨j, best, hj, rfl, rfl, hb0, hbest, bel⟩ := hrel
        have HBE2 := Lib.hid hbest
        obtain ⟨w3, rfl⟩ : ∃ w3 : World, w3 = wr := ⟨_, rfl⟩
        clear hbest
        by_cases hlt2 : j ≤ y.length
        · have Y1 := HX1.out.step bel; have Y2 := HX2.out.step bel
          have q0 : w3.cell? ⟨w.heap.size, 0, none⟩ = some (.int .i64 sa) := by simpa using Y1.cell 0
          have q1 : w3.cell? ⟨w.heap.size, 1, none⟩ = some (.slice Aa na ca) := by simpa using Y1.cell 1
          have m1 := Y1.lt; have m2 := Y2.lt
          have s1 := slice_hi A1 x.length c1 i hlt hc1
          have s2 := slice_hi A2 y.length c2 j hlt2 hc2
          have BW := b1.trans (bel.mono hb1)
          clear Y1
          go_upto_region 8 with fail
          go_cut [12] (fun cv wx => ∃ r, cv = .int .i64 r ∧ Best (Tot a (x.take i) (y.take j) false) r ∧ Below w3.heap.size w3 wx)
          case first =>
            go_region_held3 (fun w' => w'.cell? ⟨w.heap.size, 0, none⟩ = some (.int .i64 sa) ∧ w'.cell? ⟨w.heap.size, 1, none⟩ = some (.slice Aa na ca) ∧ Below w3.heap.size w3 w') (first | (have q : Below w3.heap.size w3 w3.drew := (Below.refl _ _).drew; exact ⟨cellB q q0, cellB q q1, q⟩) | (go_split_ands; have q := Below.step (a := w3) (by assumption) bn; exact ⟨cellB q q0, cellB q q1, q⟩)) (first | (go_at_call 27; go_split_ands; refine (CA.out i j hlt hlt2 _ (BW.trans (Below.mono (by assumption) BW.size))).mono ?_; rintro e wn ⟨r, rfl, hB, bn⟩))
            all_goals
              go_wp2_with fail
              go_meet
              case rel => exact ⟨r, rfl, hB, by go_split_ands; assumption⟩
          case rest =>
          obtain ⟨r, rfl, hB, b4⟩ := hcut
          obtain ⟨w4, rfl⟩ : ∃ w4 : World, w4 = wc := ⟨_, rfl⟩
          have HB := Lib.hid hB
          have hr0 := hB.nonneg HVA.out
          have Y3 := Y2.step b4
          have BW2 := BW.trans (b4.mono BW.size)
          have bel2 : Below w1.heap.size w1 w4 := Below.step bel b4
          have q2 : w4.cell? ⟨w.heap.size + 1, 0, none⟩ = some (.int .i64 sb) := by simpa using Y3.cell 0
          have q3 : w4.cell? ⟨w.heap.size + 1, 1, none⟩ = some (.slice Ab nb cb) := by simpa using Y3.cell 1
          have m3 := Y3.lt
          have s3 := slice_lo A1 x.length c1 i hlt
          have s4 := slice_lo A2 y.length c2 j hlt2
          clear hB q0 q1 m1 m2 s1 s2 Y2 Y3 b4 bel BW
          go_upto_region 9 with fail
          go_cut [13] (fun cv wx => ∃ r, cv = .int .i64 r ∧ Best (Tot b (x.drop i) (y.drop j) false) r ∧ Below w4.heap.size w4 wx)
          case first =>
            go_region_held3 (fun w' => w'.cell? ⟨w.heap.size + 1, 0, none⟩ = some (.int .i64 sb) ∧ w'.cell? ⟨w.heap.size + 1, 1, none⟩ = some (.slice Ab nb cb) ∧ Below w4.heap.size w4 w') (first | (have q : Below w4.heap.size w4 w4.drew := (Below.refl _ _).drew; exact ⟨cellB q q2, cellB q q3, q⟩) | (go_split_ands; have q := Below.step (a := w4) (by assumption) bn; exact ⟨cellB q q2, cellB q q3, q⟩)) (first | (go_at_call 27; go_split_ands; refine (CB.out i j hlt hlt2 _ (BW2.trans (Below.mono (by assumption) BW2.size))).mono ?_; rintro e wn ⟨r', rfl, hB, bn⟩))
            all_goals
              go_wp2_with fail
              go_meet
              case rel => exact ⟨r', rfl, hB, by go_split_ands; assumption⟩
          case rest =>
          obtain ⟨r', rfl, hB, b5⟩ := hcut
          obtain ⟨w5, rfl⟩ : ∃ w5 : World, w5 = wc := ⟨_, rfl⟩
          have HB' := Lib.hid hB
          have hr1 := hB.nonneg HVB.out
          have bel3 : Below w1.heap.size w1 w5 := Below.step bel2 b5
          have hbo := HB.out.both hB
          have hbb := hbo.le
          have hnn : 0 ≤ bothV r r' := by unfold bothV; split <;> omega
          have hmin := (HBE2.out.or hbo).congr (HSUC.out i j hlt hlt2)
          have HMIN := Lib.hid hmin
          clear hB b5 q2 q3 m3 s3 s4 bel2 BW2 hbo hmin
          go_wp2_with fail
          refine (both2_any r r' w5 hr0 hr1).mono ?_; rintro e w6 ⟨rfl, rfl⟩
          generalize bothV r r' = bv at *
          by_cases hle : best ≤ bv
          · have e1 : min best bv = best := by omega
            have HM := HMIN.out
            rw [e1] at HM
            have HM2 := Lib.hid HM
            clear e1 HM
            go_wp2_with fail
            all_goals
              first
                | omega
                | (go_roundw
                   case rel => exact ⟨j + 1, _, by omega, by go_num, rfl, by omega, HM2.out, bel3⟩
                   case measure => simp [intOf]; omega)
          · have e1 : min best bv = bv := by omega
            have HM := HMIN.out
            rw [e1] at HM
            have HM2 := Lib.hid HM
            clear e1 HM
            go_wp2_with fail
            all_goals
              first
                | omega
                | (go_roundw
                   case rel => exact ⟨j + 1, _, by omega, by go_num, rfl, by omega, HM2.out, bel3⟩
                   case measure => simp [intOf]; omega)
        · obtain rfl : j = y.length + 1 := by omega
          have HB := Lib.hid (HBE2.out.congr (HROW.out i))
          go_wp2_with fail
          go_roundw
          case rel => exact ⟨i + 1, _, by omega, by go_num, rfl, hb0, HB.out, bel⟩
          case measure => simp [intOf]; omega
    · obtain rfl : i = x.length + 1 := by omega
      go_wp2_with fail
      go_ret
      exact ⟨_, rfl, hb0, HBE.out, b1.trans (bel.mono hb1)⟩
end Go.Proofs.Ytphoioejhdjbaaa
