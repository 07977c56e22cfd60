/- The walk of WeighStar. -/
import Derived.Test.YtphoioejhdjbaaaStarCost
import Derived.Deep.CutBlock
namespace Go.Proofs.Ytphoioejhdjbaaa
open Go.RowKit

theorem made_size' (r : RawL) (k : Int) (full : Bool) (k1 : 1 ≤ k) : (mkMach r k full).states.length ≤ k.toNat ∧ arcsOf (mkMach r k full).states ≤ 4 * k.toNat ∧ 1 ≤ (mkMach r k full).states.length := by
  have h1 := mkMach_len r k full k1
  have h2 : mkN r k ≤ k ∧ 1 ≤ mkN r k := by unfold mkN; omega
  have h3 := sum_le4 _ (mk_arcs_small r k full)
  refine ⟨by omega, by omega, by omega⟩
namespace weighStar
set_option maxRecDepth 100000 in
set_option maxHeartbeats 8000000 in
theorem walk {w : World} (v1 : Value) (r1 : RawL) (hr1 : RawArg w v1 r1) (A1 : Option Addr) (n1 k1 : Nat) (xs : List Int) (hx : IntArg w A1 n1 xs) (A2 : Option Addr) (n2 k2 : Nat) (ys : List Int) (hy : IntArg w A2 n2 ys) :
    Calls Try.prog 12 #[v1, .slice A1 n1 k1, .slice A2 n2 k2] w fun e w' => e = .returned (.bool true) ∧ Below w.heap.size w w' := by
  have hma : Valid (mkMach r1 4 false) := valid_made r1 4 false (by omega) (by omega)
  have hsa : Little (mkMach r1 4 false) 4 4 := made_little r1 4 false (by omega)
  have hza := made_size' r1 4 false (by omega)
  have HMA := Lib.hid (fun W hb => made_any v1 r1 4 false W (hr1.below hb) (by omega) (by omega))
  have HWX := Lib.hid (fun W hb => word_any A1 n1 k1 xs 2 W (hx.below hb) (by omega))
  have HWY := Lib.hid (fun W hb => word_any A2 n2 k2 ys 2 W (hy.below hb) (by omega))
  have lx := mkWord_len xs 2; have ly := mkWord_len ys 2
  have BX := Lib.hid (word_b xs 2); have BY := Lib.hid (word_b ys 2)
  obtain ⟨-, -, A, c, rfl, -⟩ := hr1
  generalize mkMach r1 4 false = a at *
  generalize mkWord xs 2 = x at *
  generalize mkWord ys 2 = y at *
  obtain ⟨hza1, hza2, hza3⟩ := hza
  have hza1' : a.states.length ≤ 4 := by simpa using hza1
  have hza2' : arcsOf a.states ≤ 16 := by simpa using hza2
  have HVA := Lib.hid hma
  have HVS := Lib.hid (star_valid hma (by omega) (by omega))
  have HCA := Lib.hid (fun i j (hi : i ≤ x.length) (hj : j ≤ y.length) => hsa.ok (lx := i) (ly := j) 2 2 (by omega) (by omega) (by omega))
  have HCS := Lib.hid (fun i j (hi : i ≤ x.length) (hj : j ≤ y.length) => (star_little hsa).ok (lx := i) (ly := j) 2 2 (by omega) (by omega) (by omega))
  have HB0 := Lib.hid (star_nil hma)
  have HSB := Lib.hid (fun (r r' : Int) hn h h' => star_best (x := x) (y := y) (r := r) (r' := r') hma hn h h')
  have HQ0 : Hid (BestB (TQ a x y 0 0) 1000000001) := Lib.hid (.inl ⟨rfl, TQ_zero a x y⟩)
  have HROW := Lib.hid (TQ_row a x y); have HSK := Lib.hid (TQ_skip a x y); have HSUC := Lib.hid (TQ_succ a x y)
  have hul : ((starM a).states.length : Int) = 1 + a.states.length := by rw [star_len]; simp
  have hgt : ¬ ((starM a).states.length : Int) < 2 := by omega
  clear hma hsa hza1 hza2 hx hy hul
  have HUM := Lib.hid (show starM a = starM a from rfl)
  go_enter Try.func12, Try.ntmps12
  go_wp2_with fail
  refine (HMA.out _ (by repeat' (first | exact Below.refl _ _ | assumption | refine Below.drew ?_ | refine Below.alloc ?_ (by first | omega | (simp; done) | (simp; omega)) _ | refine Below.setCell ?_ (by first | omega | (simp; done) | (simp; omega)) _))).mono ?_; rintro e w1 ⟨mv, rfl, o1, q1⟩
  obtain ⟨A3, c3, rfl, s1⟩ := own_open o1
  have b1 : Below w.heap.size w w1 := ((by repeat' (first | exact Below.refl _ _ | assumption | refine Below.drew ?_ | refine Below.alloc ?_ (by first | omega | (simp; done) | (simp; omega)) _ | refine Below.setCell ?_ (by first | omega | (simp; done) | (simp; omega)) _)) : Below w.heap.size w _).trans (q1.mono (by simp))
  have X1 := Lib.hid (MBox.new (c := c3) s1)
  have b1a := b1.alloc b1.size (.cells #[.int .i64 a.start, .slice A3 a.states.length c3] 27)
  clear o1 q1 HMA s1
  go_wp2_with fail
  refine (Star_any _ a _ X1.out.mach HVA.out HVS.out).mono ?_; rintro e w2 ⟨mv2, rfl, o2, q2⟩
  obtain ⟨A4, c4, rfl, s2⟩ := own_open o2
  have b2 : Below w.heap.size w w2 := b1a.trans (q2.mono b1a.size)
  have Y2 := Lib.hid (MBox.new (c := c4) s2)
  generalize starM a = s at *
  have X2 := Lib.hid ((X1.out.step q2).alloc (.cells #[.int .i64 s.start, .slice A4 s.states.length c4] 27))
  have b2a := b2.alloc b2.size (.cells #[.int .i64 s.start, .slice A4 s.states.length c4] 27)
  clear o2 q2 s2 X1 b1a b1
  go_wp2_with fail
  generalize w2.alloc (.cells #[.int .i64 s.start, .slice A4 s.states.length c4] 27) = w4 at *
  refine (HWX.out _ b2a).mono ?_; rintro e w5 ⟨xv, rfl, ox, q5⟩
  obtain ⟨A6, c6, rfl, hc6, -⟩ := own_form ox
  have rx := Rd.of_own ox
  have RX := Lib.hid rx
  have b5 : Below w.heap.size w w5 := b2a.trans (q5.mono b2a.size)
  have X5 := Lib.hid (X2.out.step q5); have Y5 := Lib.hid (Y2.out.step q5)
  clear ox rx q5 X2 Y2 b2a b2 HWX
  go_wp2_with fail
  refine (HWY.out _ b5).mono ?_; rintro e w6 ⟨yv, rfl, oy, q6⟩
  obtain ⟨A7, c7, rfl, hc7, -⟩ := own_form oy
  have ry := Rd.of_own oy
  have RY := Lib.hid ry
  have b6 : Below w.heap.size w w6 := b5.trans (q6.mono b5.size)
  have X6 := Lib.hid (X5.out.step q6); have Y6 := Lib.hid (Y5.out.step q6); have RX6 := Lib.hid (RX.out.below q6 rfl)
  have k6 := Y6.out.blk.cell; have l6 := Y6.out.blk.lt
  clear oy ry q6 X5 Y5 RX b5 HWY
  go_wp2_with fail
  clear k6 l6
  refine (cost_any _ s x y A6 A7 c6 c7 _ Y6.out.mach HVS.out RX6.out RY.out (by omega) (by omega) BX.out BY.out (HCS.out _ _ (Nat.le_refl _) (Nat.le_refl _))).mono ?_; rintro e w7 ⟨best, rfl, hBs, q7⟩
  have b7 : Below w.heap.size w w7 := b6.trans (q7.mono b6.size)
  have HBS := Lib.hid hBs
  have hb0 := hBs.nonneg HVS.out
  have X7 := Lib.hid (X6.out.step q7); have Y7 := Lib.hid (Y6.out.step q7); have RX7 := Lib.hid (RX6.out.below q7 rfl); have RY7 := Lib.hid (RY.out.below q7 rfl)
  have k7 := Y7.out.blk.cell; have l7 := Y7.out.blk.lt
  have e0 : ¬ best < 0 := by omega
  clear hBs q7 X6 Y6 RX6 RY b6
  go_wp2_with fail
  clear k7 l7
  refine (cost_n _ s [] [] none none 0 0 0 0 _ rfl rfl Y7.out.mach HVS.out (Rd.nil _ _ _) (Rd.nil _ _ _) (by omega) (by omega) (fun _ h => by cases h) (fun _ h => by cases h) (HCS.out 0 0 (Nat.zero_le _) (Nat.zero_le _))).mono ?_; rintro e w8 ⟨z, rfl, hBz, q8⟩
  obtain rfl : z = 0 := hBz.eq HB0.out
  have b8 : Below w.heap.size w w8 := b7.trans (q8.mono b7.size)
  have X8 := Lib.hid (X7.out.step q8); have Y8 := Lib.hid (Y7.out.step q8); have RX8 := Lib.hid (RX7.out.below q8 rfl); have RY8 := Lib.hid (RY7.out.below q8 rfl)
  clear hBz q8 X7 Y7 RX7 RY7 b7
  have CA := Lib.hid (fun i j (hi : i ≤ x.length) (hj : j ≤ y.length) W (hW : Below w8.heap.size w8 W) => cost_n _ a (x.take i) (y.take j) A6 A7 i j i j W (by simp; omega) (by simp; omega) (X8.out.step hW).mach HVA.out (rd_take (RX8.out.below hW rfl) i hi) (rd_take (RY8.out.below hW rfl) j hj) (by omega) (by omega) (fun e he => BX.out e (List.mem_of_mem_take he)) (fun e he => BY.out e (List.mem_of_mem_take he)) (HCA.out i j hi hj))
  have CS := Lib.hid (fun i j (hi : i ≤ x.length) (hj : j ≤ y.length) W (hW : Below w8.heap.size w8 W) => cost_n _ s (x.drop i) (y.drop j) (loAddr A6 c6 i) (loAddr A7 c7 j) (x.length - i) (y.length - j) (c6 - i) (c7 - j) W (by simp) (by simp) (Y8.out.step hW).mach HVS.out (rd_drop (RX8.out.below hW rfl) c6 i hc6 hi) (rd_drop (RY8.out.below hW rfl) c7 j hc7 hj) (by omega) (by omega) (fun e he => BX.out e (List.mem_of_mem_drop he)) (fun e he => BY.out e (List.mem_of_mem_drop he)) (HCS.out _ _ (by omega) (by omega)))
  go_upto_region 10 with fail
  obtain ⟨w9, rfl⟩ : ∃ w9 : World, w9 = w8 := ⟨_, rfl⟩
  have lx8 := X8.out.blk.lt; have ly8 := Y8.out.blk.lt
  go_loopw [13, 14] (fun bv iv wr => ∃ (i : Nat) (once : Int), i ≤ x.length + 1 ∧ iv = .int .i64 i ∧ bv = .int .i64 once ∧ 0 ≤ once ∧ BestB (TQ a x y i 0) once ∧ Below w9.heap.size w9 wr) (fun _ iv _ => x.length + 1 - (intOf iv).toNat)
  case atStart => exact ⟨0, _, by omega, rfl, rfl, by omega, HQ0.out, Below.refl _ _⟩
  case round =>
    obtain ⟨i, once, hi, rfl, rfl, ho0, hbest, bel⟩ := hrel
    have HBE := Lib.hid hbest
    clear hbest
    by_cases hlt : i ≤ x.length
    · go_wp2_with fail
      go_loopw [13, 15] (fun bv jv wr => ∃ (j : Nat) (once : Int), j ≤ y.length + 1 ∧ jv = .int .i64 j ∧ bv = .int .i64 once ∧ 0 ≤ once ∧ BestB (TQ a x y i j) once ∧ Below w9.heap.size w9 wr) (fun _ jv _ => y.length + 1 - (intOf jv).toNat)
      case atStart => exact ⟨0, _, by omega, rfl, rfl, ho0, HBE.out, bel⟩
      case round =>
        obtain ⟨j, once, hj, rfl, rfl, ho0, hbest, bel⟩ := hrel
        have HBE2 := Lib.hid hbest
        obtain ⟨w3, rfl⟩ : ∃ w3 : World, w3 = wr := ⟨_, rfl⟩
        clear hbest
        by_cases hlt2 : j ≤ y.length
        · have hwr : IntKind.i64.wrap ((i : Int) + j) = (i : Int) + j := IntWalk.i64_in _ (by omega)
          go_upto_block 3 with fail
          go_cut [13] (fun cv wx => ∃ n : Int, cv = .int .i64 n ∧ 0 ≤ n ∧ BestB (TQ a x y i (j + 1)) n ∧ Below w3.heap.size w3 wx)
          case first =>
            by_cases hz : i + j = 0
            · obtain ⟨rfl, rfl⟩ : i = 0 ∧ j = 0 := by omega
              have HB1 := Lib.hid (HBE2.out.congr HSK.out)
              go_wp2_with fail
              go_meet
              case rel => exact ⟨_, rfl, ho0, HB1.out, Below.refl _ _⟩
            · have e1 : ((i : Int) + j == 0) = false := by simp; omega
              have Y1 := X8.out.blk.step bel; have Y2 := Y8.out.blk.step bel
              have q0 : w3.cell? ⟨w1.heap.size, 0, none⟩ = some (.int .i64 a.start) := by simpa using Y1.cell 0
              have q1 : w3.cell? ⟨w1.heap.size, 1, none⟩ = some (.slice A3 a.states.length c3) := by simpa using Y1.cell 1
              have q2 : w3.cell? ⟨w2.heap.size, 0, none⟩ = some (.int .i64 s.start) := by simpa using Y2.cell 0
              have q3 : w3.cell? ⟨w2.heap.size, 1, none⟩ = some (.slice A4 s.states.length c4) := by simpa using Y2.cell 1
              have m1 := Y1.lt; have m2 := Y2.lt
              have s1 := slice_hi A6 x.length c6 i hlt hc6
              have s2 := slice_hi A7 y.length c7 j hlt2 hc7
              have s3 := slice_lo A6 x.length c6 i hlt
              have s4 := slice_lo A7 y.length c7 j hlt2
              clear Y1 Y2
              have CAij := Lib.hid (CA.out i j hlt hlt2); have CSij := Lib.hid (CS.out i j hlt hlt2)
              clear CA CS
              generalize loAddr A6 c6 i = L6 at *
              generalize loAddr A7 c7 j = L7 at *
              generalize x.length - i = m6 at *
              generalize y.length - j = m7 at *
              generalize c6 - i = d6 at *
              generalize c7 - j = d7 at *
              go_upto_region 16 with fail
              go_region_held3 (fun w' => w'.cell? ⟨w1.heap.size, 0, none⟩ = some (.int .i64 a.start) ∧ w'.cell? ⟨w1.heap.size, 1, none⟩ = some (.slice A3 a.states.length c3) ∧ w'.cell? ⟨w2.heap.size, 0, none⟩ = some (.int .i64 s.start) ∧ w'.cell? ⟨w2.heap.size, 1, none⟩ = some (.slice A4 s.states.length c4) ∧ Below w3.heap.size w3 w') (first | (have q : Below w3.heap.size w3 w3.drew := (Below.refl _ _).drew; exact ⟨cellB q q0, cellB q q1, cellB q q2, cellB q q3, q⟩) | (go_split_ands; have q := Below.step (a := w3) (by assumption) bn; exact ⟨cellB q q0, cellB q q1, cellB q q2, cellB q q3, q⟩)) (first
                  | (go_at_call 27; with_reducible show Calls Try.prog 27 #[.agg #[.int .i64 a.start, .slice A3 a.states.length c3], .slice A6 i i, .slice A7 j j] _ _; go_split_ands; refine (CAij.out _ (Below.step bel (by assumption))).mono ?_; rintro e wn ⟨r, rfl, hBr, bn⟩)
                  | (go_at_call 27; with_reducible show Calls Try.prog 27 #[.agg #[.int .i64 s.start, .slice A4 s.states.length c4], .slice L6 m6 d6, .slice L7 m7 d7] _ _; go_split_ands; refine (CSij.out _ (Below.step bel (by assumption))).mono ?_; rintro e wn ⟨r', rfl, hBr', bn⟩)
                  | (go_at_call 34; refine (both2_any r r' _ (hBr.nonneg HVA.out) (hBr'.nonneg HVS.out)).mono ?_; rintro e wn ⟨rfl, rfl⟩; have bn := Below.refl wn.heap.size wn))
              all_goals
                have hr0 := hBr.nonneg HVA.out
                have hr1 := hBr'.nonneg HVS.out
                have hbo := hBr.both hBr'
                have hbb := hbo.le
                have hnn : 0 ≤ bothV r r' := by unfold bothV; split <;> omega
                have hmin := (HBE2.out.or hbo).congr (HSUC.out i j hlt hlt2 hz)
                have HMIN := Lib.hid hmin
                clear hmin hbo
                generalize bothV r r' = bv at *
                go_wp2_with fail
                all_goals
                  go_meet
                  case rel => exact ⟨min once bv, by first | rfl | (congr 1; omega) | (congr 1; split <;> omega), by omega, HMIN.out, by go_split_ands; assumption⟩
          case rest =>
          obtain ⟨n, rfl, hn0, hB, b4⟩ := hcut
          have HB := Lib.hid hB
          have bel2 := Below.step bel b4
          clear hB b4 bel
          go_wp2_with fail
          go_roundw
          case rel => exact ⟨j + 1, _, by omega, by go_num, rfl, hn0, HB.out, bel2⟩
          case measure => simp [intOf]; omega
        · obtain rfl : j = y.length + 1 := by omega
          have HB := Lib.hid (HBE2.out.congr (HROW.out i))
          go_wp2_with fail
          go_roundw
          case rel => exact ⟨i + 1, _, by omega, by go_num, rfl, ho0, HB.out, bel⟩
          case measure => simp [intOf]; omega
    · obtain rfl : i = x.length + 1 := by omega
      have b10 := b8.trans (bel.mono b8.size)
      by_cases hz : x.length + y.length = 0
      · have e1 : x = [] := List.eq_nil_of_length_eq_zero (by omega)
        have e2 : y = [] := List.eq_nil_of_length_eq_zero (by omega)
        have hbz := HBS.out
        rw [e1, e2] at hbz
        have hb := hbz.eq HB0.out
        have hwr : IntKind.i64.wrap ((x.length : Int) + y.length) = (x.length : Int) + y.length := IntWalk.i64_in _ (by omega)
        have e3 : ((x.length : Int) + y.length == 0) = true := by simp; omega
        have e4 : (best == 0) = true := by simp [hb]
        clear e1 e2 hbz hb
        go_wp2_with fail
        go_ret
        exact ⟨rfl, b10⟩
      · have hb := HSB.out best once hz HBS.out HBE.out
        have hwr : IntKind.i64.wrap ((x.length : Int) + y.length) = (x.length : Int) + y.length := IntWalk.i64_in _ (by omega)
        have e3 : ((x.length : Int) + y.length == 0) = false := by simp; omega
        have e4 : (best == once) = true := by simp [hb]
        clear hb
        go_wp2_with fail
        go_ret
        exact ⟨rfl, b10⟩
end weighStar
end Go.Proofs.Ytphoioejhdjbaaa
