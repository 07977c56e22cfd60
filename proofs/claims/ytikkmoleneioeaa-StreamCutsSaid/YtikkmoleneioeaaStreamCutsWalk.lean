/- The walk of StreamCuts. -/
import Derived.Test.YtikkmoleneioeaaSameRun
import Derived.Test.YtikkmoleneioeaaCutWords
import Derived.Deep.CutBlock
namespace Go.Proofs.Ytikkmoleneioeaa
open Go.RowKit

theorem size_ad (w : World) (o : Obj) : w.heap.size < ((w.alloc o).drew).heap.size := by
  show w.heap.size < (w.alloc o).heap.size
  simp
theorem same_fed {m : MachL} (hv : Valid m) {WW : Int} {AA : Nat} (hs : SmallS m WW AA) {x : List Int} {w : World} {A B : Option Addr} {f : Int} {k k' c d : Nat} (h : FedO m WW x w (.agg #[.int .i64 f, .slice A k c])) (h' : FedO m WW x w (.agg #[.int .i64 f, .slice B k' d])) (hx : x.length ≤ 12) :
    Calls Try.prog 13 #[.agg #[.int .i64 f, .slice A k c], .agg #[.int .i64 f, .slice B k' d]] w fun e w' => e = .returned (.bool true) ∧ Below w.heap.size w w' := by
  obtain ⟨L, ⟨A1, c1, h1, m1⟩, t1⟩ := h
  obtain ⟨L', ⟨B1, d1, h2, m2⟩, t2⟩ := h'
  obtain rfl := t1.tab.eq hv t2.tab
  simp only [Value.agg.injEq, Array.mk.injEq, List.cons.injEq, Value.slice.injEq, and_true] at h1 h2
  obtain ⟨-, rfl, rfl, rfl⟩ := h1
  obtain ⟨-, rfl, rfl, rfl⟩ := h2
  have hm := t1.may hv hs hx
  exact sameRun_any _ _ _ _ _ f _ _ w m1 m2 (by have := marksL_len L m.states.length; have := hv.size; omega) (fun y hy => by have := (hm.ok y hy).2.2.2; omega)
namespace streamCuts
set_option maxRecDepth 100000 in
set_option maxHeartbeats 8000000 in
theorem walk {w : World} (v1 : Value) (r1 : RawL) (hr1 : RawArg w v1 r1) (A1 : Option Addr) (n1 k1 : Nat) (xs : List Int) (hx : IntArg w A1 n1 xs) (cu : Int) (hcu1 : -9223372036854775808 ≤ cu) (hcu2 : cu ≤ 9223372036854775807) :
    Calls Try.prog 3 #[v1, .slice A1 n1 k1, .int .i64 cu] w fun e w' => e = .returned (.bool true) ∧ Below w.heap.size w w' := by
  have hma : Valid (mkMach r1 6 false) := valid_made r1 6 false (by omega) (by omega)
  have hsa : Little (mkMach r1 6 false) 6 4 := made_little r1 6 false (by omega)
  have hss := made_smallS r1 6 (by omega) (by omega)
  have hfq := made_finQ r1 6 (by omega)
  have ha0 : 0 ≤ (mkMach r1 6 false).start := pick_lo _ _ (by unfold mkN; omega)
  have HMA := Lib.hid (fun W hb => made_any v1 r1 6 false W (hr1.below hb) (by omega) (by omega))
  have HWX := Lib.hid (fun W hb => word_any A1 n1 k1 xs 12 W (hx.below hb) (by omega))
  have lx := mkWord_len xs 12
  have BX := Lib.hid (word_b xs 12)
  obtain ⟨-, -, A0, c0, rfl, -⟩ := hr1
  generalize mkMach r1 6 false = m at *
  generalize mkWord xs 12 = x at *
  have HV := Lib.hid hma; have HS := Lib.hid hss; have HFQ := Lib.hid hfq
  have HA0 := Lib.hid ha0
  clear hma hsa hss hfq hx ha0
  go_enter Try.func3, Try.ntmps3
  go_wp2_with fail
  refine (HMA.out _ (by repeat' (first | exact Below.refl _ _ | assumption | refine Below.drew ?_ | refine Below.alloc ?_ (by first | omega | (simp; done) | (simp; omega)) _ | refine Below.setCell ?_ (by first | omega | (simp; done) | (simp; omega)) _))).mono ?_; rintro e w1 ⟨mv, rfl, o1, q1⟩
  obtain ⟨A, c, rfl, s1⟩ := own_open o1
  have b1 : Below w.heap.size w w1 := ((by repeat' (first | exact Below.refl _ _ | assumption | refine Below.drew ?_ | refine Below.alloc ?_ (by first | omega | (simp; done) | (simp; omega)) _ | refine Below.setCell ?_ (by first | omega | (simp; done) | (simp; omega)) _)) : Below w.heap.size w _).trans (q1.mono (by simp))
  have S1 : Hid (StatesAt w1 A m.states) := Lib.hid s1
  clear o1 q1 s1 HMA
  go_wp2_with fail
  have z1 := b1.size
  have MB : Blk (w1.alloc (.cells #[.int .i64 m.start, .slice A m.states.length c] 28)) w1.heap.size #[.int .i64 m.start, .slice A m.states.length c] 28 := Blk.new _ _ _
  have b1' := b1.alloc b1.size (.cells #[.int .i64 m.start, .slice A m.states.length c] 28)
  have S1' := Lib.hid (S1.out.below ((Below.refl _ _).alloc (Nat.le_refl _) (.cells #[.int .i64 m.start, .slice A m.states.length c] 28)) (Nat.le_refl _))
  refine (HWX.out _ b1').mono ?_; rintro e w2 ⟨xv, rfl, o2, q2⟩
  obtain ⟨Ax, cx, rfl, -, -⟩ := own_form o2
  have MB2 := MB.step q2
  have b2 := b1'.trans (q2.mono b1'.size)
  have S2 := Lib.hid (S1'.out.below q2 (Nat.le_refl _))
  have X2 := Lib.hid (Rd.of_own o2)
  have HM2 := Lib.hid MB2; have HB2 := Lib.hid b2
  have BG := Lib.hid (Begin_use A c m w2 9 4 S2.out HV.out HS.out HA0.out)
  have m0 := MB2.cell; have ml := MB2.lt
  generalize hxl : x.length = xl at *
  have HXL := Lib.hid hxl
  have hpk0 := pick_lo cu ((xl : Int) + 1) (by omega); have hpk1 := pick_hi cu ((xl : Int) + 1) (by omega)
  have PK := Lib.hid (picked_any cu ((xl : Int) + 1) w2 hcu1 hcu2 (by omega) (by omega))
  obtain ⟨k, hk⟩ : ∃ k : Nat, pick cu ((xl : Int) + 1) = (k : Int) := ⟨(pick cu ((xl : Int) + 1)).toNat, by omega⟩
  rw [hk] at PK hpk1
  have hkx : k ≤ xl := by omega
  obtain ⟨hcx1, hcx2⟩ : xl ≤ cx ∧ cx ≤ maxLen := by
    obtain ⟨A', c', hv, h1, h2⟩ := own_form o2
    simp only [Value.slice.injEq] at hv
    obtain ⟨-, h3, rfl⟩ := hv
    exact ⟨h1, h2⟩
  clear hxl o2 q2 MB MB2 b1 b1' S1 S1' HWX b2 hpk0 hpk1 hk
  go_wp2_with fail
  refine PK.out.mono ?_; rintro e w_ ⟨rfl, rfl⟩
  clear PK
  go_wp2_with fail
  refine BG.out.mono ?_; rintro e w3 ⟨Ar, k0, cr, rfl, FB3, hlen0, b3⟩
  have HF3 := Lib.hid FB3
  have S3 := Lib.hid (S2.out.below b3 (Nat.le_refl _)); have X3 := Lib.hid (X2.out.below b3 rfl)
  have MB3 := (HM2.out.step b3); have HM3 := Lib.hid MB3; have HB3 := Lib.hid (HB2.out.trans (b3.mono HB2.out.size))
  have l3 := b3.size
  clear FB3 b3 m0 BG
  have hk0 : ¬ ((k0 : Int) = 0) := by omega
  have ek0 : ((k0 : Int) == 0) = false := by simp; omega
  have C3 : Below w3.heap.size w3 (w3.alloc (.cells #[.int .i64 0, .slice Ar k0 cr] 34)) := (Below.refl _ _).alloc (Nat.le_refl _) _
  have RB3 := Lib.hid (Blk.new w3 #[.int .i64 0, .slice Ar k0 cr] 34)
  have S3' := Lib.hid (S3.out.below C3 (Nat.le_refl _)); have X3' := Lib.hid (X3.out.below C3 rfl)
  have HM3' := Lib.hid (HM3.out.step C3); have HB3' := Lib.hid (HB3.out.trans (C3.mono HB3.out.size))
  have FD := Lib.hid (Feed_use A c _ m (w3.alloc (.cells #[.int .i64 0, .slice Ar k0 cr] 34)) 9 4 [] x Ax xl cx (xl : Int) S3'.out HV.out HS.out (fed_below HF3.out C3) X3'.out BX.out (by simp only [List.length_nil]; omega) (by simp))
  rw [List.nil_append] at FD
  have m0 := MB3.cell 0; have m1 := MB3.cell 1; have ml3 := MB3.lt
  simp only [List.getElem?_toArray, List.getElem?_cons_succ, List.getElem?_cons_zero] at m0 m1
  clear C3 MB3 hlen0
  go_wp2_with fail
  refine FD.out.mono ?_; rintro e w4 ⟨Ar4, k4, cr4, rfl, hF4z, b4⟩
  have hF4 := hF4z.o
  clear hF4z
  have S4 := Lib.hid (S3'.out.below b4 (Nat.le_refl _)); have X4 := Lib.hid (X3'.out.below b4 rfl)
  have HM4 := Lib.hid (HM3'.out.step b4); have HB4 := Lib.hid (HB3'.out.trans (b4.mono HB3'.out.size))
  have HRB4 := Lib.hid (RB3.out.step b4); have HF4 := Lib.hid hF4
  have HF3' := Lib.hid (fed_below (fed_below HF3.out ((Below.refl _ _).alloc (Nat.le_refl _) _)) b4)
  have ml4 := (HM3'.out.step b4).lt; have r4 := (RB3.out.step b4).lt
  clear hF4 b4 FD S3' X3' HM3' HB3' RB3
  have C4 : Below w4.heap.size w4 (w4.alloc (.cells #[.int .i64 (xl : Int), .slice Ar4 k4 cr4] 34)) := (Below.refl _ _).alloc (Nat.le_refl _) _
  have RX := Lib.hid (Blk.new w4 #[.int .i64 (xl : Int), .slice Ar4 k4 cr4] 34)
  have S5 := Lib.hid (S4.out.below C4 (Nat.le_refl _)); have X5 := Lib.hid (X4.out.below C4 rfl)
  have M5 := (HM4.out.step C4); have HM5 := Lib.hid M5; have HB5 := Lib.hid (HB4.out.trans (C4.mono HB4.out.size))
  have R5 := HRB4.out.step C4; have HR5 := Lib.hid R5; have HF5 := Lib.hid (fed_below HF4.out C4); have HG5 := Lib.hid (fed_below HF3'.out C4)
  have hz4 : w4.heap.size < (w4.alloc (.cells #[.int .i64 (xl : Int), .slice Ar4 k4 cr4] 34)).heap.size := by simp
  have q0 := (HM4.out).cell 0; have q1 := (HM4.out).cell 1; have q2 := (HRB4.out).cell 0; have q3 := (HRB4.out).cell 1
  simp only [List.getElem?_toArray, List.getElem?_cons_succ, List.getElem?_cons_zero] at q0 q1 q2 q3
  have s1 := slice_hi Ax xl cx k hkx hcx1
  have s2 := slice_lo Ax xl cx k hkx
  have t1 : Hid (∀ W, Rd W Ax xl 1 (icells x) → Rd W Ax k 1 (icells (x.take k))) := Lib.hid fun W h => rd_take (by rw [HXL.out]; exact h) k (by rw [HXL.out]; exact hkx)
  have t2 : Hid (∀ W, Rd W Ax xl 1 (icells x) → Rd W (loAddr Ax cx k) (xl - k) 1 (icells (x.drop k))) := Lib.hid fun W h => by
    have := rd_drop (w := W) (A := Ax) (x := x) (by rw [HXL.out]; exact h) cx k (by rw [HXL.out]; exact hcx1) (by rw [HXL.out]; exact hkx)
    rwa [HXL.out] at this
  have BX1 : Hid (GoodW (x.take k)) := Lib.hid fun a ha => BX.out a (List.mem_of_mem_take ha)
  have BX2 : Hid (GoodW (x.drop k)) := Lib.hid fun a ha => BX.out a (List.mem_of_mem_drop ha)
  clear C4 M5 R5
  go_upto_region 6 with fail
  clear q0 q1 q2 q3
  generalize w4.alloc (.cells #[.int .i64 (xl : Int), .slice Ar4 k4 cr4] 34) = w5 at *
  have q0 := HM5.out.cell 0; have q1 := HM5.out.cell 1; have q2 := HR5.out.cell 0; have q3 := HR5.out.cell 1
  have e1 := HM5.out.lt; have e2 := HR5.out.lt
  simp only [List.getElem?_toArray, List.getElem?_cons_succ, List.getElem?_cons_zero] at q0 q1 q2 q3
  have KS : Hid (∀ W, Below w5.heap.size w5 W → W.cell? ⟨w1.heap.size, 0, none⟩ = some (.int .i64 m.start) ∧ W.cell? ⟨w1.heap.size, 1, none⟩ = some (.slice A m.states.length c) ∧ W.cell? ⟨w3.heap.size, 0, none⟩ = some (.int .i64 0) ∧ W.cell? ⟨w3.heap.size, 1, none⟩ = some (.slice Ar k0 cr) ∧ Below w5.heap.size w5 W) := Lib.hid fun W hb => ⟨cell_keep hb (Nat.le_refl _) q0, cell_keep hb (Nat.le_refl _) q1, cell_keep hb (Nat.le_refl _) q2, cell_keep hb (Nat.le_refl _) q3, hb⟩
  have FD := Lib.hid (fun W (hb : Below w5.heap.size w5 W) => Feed_use A c _ m W 9 4 [] (x.take k) Ax k k (k : Int) (S5.out.below hb (Nat.le_refl _)) HV.out HS.out (fed_below HG5.out hb) ((t1.out _ X5.out).below hb rfl) BX1.out (by simp only [List.length_nil]; omega) (by simp))
  rw [List.nil_append] at FD
  go_cut [14, 15] (fun p ev wx => ∃ b A' k' c', p = .pointer (some ⟨b, 0, none⟩) ∧ ev = .int .i64 0 ∧ Blk wx b #[.int .i64 (k : Int), .slice A' k' c'] 34 ∧ FedO m 9 (x.take k) wx (.agg #[.int .i64 (k : Int), .slice A' k' c']) ∧ Below w5.heap.size w5 wx ∧ w5.heap.size ≤ b)
  case first =>
    go_region_held3 (fun W => W.cell? ⟨w1.heap.size, 0, none⟩ = some (.int .i64 m.start) ∧ W.cell? ⟨w1.heap.size, 1, none⟩ = some (.slice A m.states.length c) ∧ W.cell? ⟨w3.heap.size, 0, none⟩ = some (.int .i64 0) ∧ W.cell? ⟨w3.heap.size, 1, none⟩ = some (.slice Ar k0 cr) ∧ Below w5.heap.size w5 W) (first | (exact KS.out _ (Below.refl _ _).drew) | (refine KS.out _ ?_; (try go_split_ands); first | exact Below.step (a := w5) (by assumption) bn | (repeat' (first | assumption | exact Below.step (a := w5) (by assumption) bn | refine Below.alloc ?_ (Below.size (show Below w5.heap.size w5 _ by first | assumption | exact Below.step (a := w5) (by assumption) bn)) _ | refine Below.setCell ?_ (by first | exact Nat.le_refl _ | exact Below.size (show Below w5.heap.size w5 _ by first | assumption | exact Below.step (a := w5) (by assumption) bn)) _ | refine Below.drew ?_))))
      (first | (go_at_call 12; go_split_ands; refine (FD.out _ (by assumption)).mono ?_; rintro e wn ⟨An, kn, cn, rfl, hFn, bn⟩; obtain ⟨cc1, ff1⟩ := bcell bn; have zs := bn.size; (try simp at zs); (try have y0 : w5.heap.size < wn.heap.size := by omega)))
    all_goals
      go_wp2_with fail
      go_meet
      case rel =>
        first
        | exact ⟨wn.heap.size, An, kn, cn, rfl, rfl, Blk.new _ _ _, fed_below hFn.o ((Below.refl _ _).alloc (Nat.le_refl _) _), by go_split_ands; assumption, by omega⟩
        | exact ⟨w5.heap.size, An, kn, cn, rfl, rfl, (((Blk.step (Blk.drew (Blk.new' rfl)) bn).put 0 _).put 1 _).eq (by simp), ((hFn.set (a := ⟨w5.heap.size, 0, none⟩) (size_ad _ _) _).set (a := ⟨w5.heap.size, 1, none⟩) (size_ad _ _) _).o, by go_split_ands; assumption, Nat.le_refl _⟩
  case rest =>
    obtain ⟨gb, Ab, kb, cb, rfl, rfl, hb6, hF6, b6, hgb⟩ := hcut
    obtain ⟨w6, rfl⟩ : ∃ wx : World, wx = wc := ⟨_, rfl⟩
    have S6 := Lib.hid (S5.out.below b6 (Nat.le_refl _)); have X6 := Lib.hid (X5.out.below b6 rfl)
    have HM6 := Lib.hid (HM5.out.step b6); have HR6 := Lib.hid (HR5.out.step b6); have RX6 := Lib.hid (RX.out.step b6)
    have HB6 := Lib.hid (HB5.out.trans (b6.mono HB5.out.size)); have HF6 := Lib.hid (fed_below HF5.out b6)
    have HBB := Lib.hid hb6; have HFB := Lib.hid hF6
    have z6 := b6.size
    clear q0 q1 q2 q3 e1 e2 KS FD hb6 hF6 b6
    go_upto_region 7 with fail
    have q0 := HM6.out.cell 0; have q1 := HM6.out.cell 1; have q2 := HBB.out.cell 0; have q3 := HBB.out.cell 1
    have e1 := HM6.out.lt; have e2 := HBB.out.lt
    simp only [List.getElem?_toArray, List.getElem?_cons_succ, List.getElem?_cons_zero] at q0 q1 q2 q3
    have KS : Hid (∀ W, Below w6.heap.size w6 W → W.cell? ⟨w1.heap.size, 0, none⟩ = some (.int .i64 m.start) ∧ W.cell? ⟨w1.heap.size, 1, none⟩ = some (.slice A m.states.length c) ∧ W.cell? ⟨gb, 0, none⟩ = some (.int .i64 (k : Int)) ∧ W.cell? ⟨gb, 1, none⟩ = some (.slice Ab kb cb) ∧ Below w6.heap.size w6 W) := Lib.hid fun W hb => ⟨cell_keep hb (Nat.le_refl _) q0, cell_keep hb (Nat.le_refl _) q1, cell_keep hb (Nat.le_refl _) q2, cell_keep hb (Nat.le_refl _) q3, hb⟩
    have FD := Lib.hid (fun W (hb : Below w6.heap.size w6 W) => Feed_use A c _ m W 9 4 (x.take k) (x.drop k) (loAddr Ax cx k) (xl - k) (cx - k) (xl : Int) (S6.out.below hb (Nat.le_refl _)) HV.out HS.out (fed_below HFB.out hb) ((t2.out _ X6.out).below hb rfl) BX2.out (by have := HXL.out; rw [List.length_take]; omega) (by have := HXL.out; rw [List.length_take]; omega))
    rw [List.take_append_drop] at FD
    go_cut [16, 17] (fun p ev wx => ∃ b A' k' c', p = .pointer (some ⟨b, 0, none⟩) ∧ ev = .int .i64 0 ∧ Blk wx b #[.int .i64 (xl : Int), .slice A' k' c'] 34 ∧ FedO m 9 x wx (.agg #[.int .i64 (xl : Int), .slice A' k' c']) ∧ Below w6.heap.size w6 wx ∧ w6.heap.size ≤ b)
    case first =>
      go_region_held3 (fun W => W.cell? ⟨w1.heap.size, 0, none⟩ = some (.int .i64 m.start) ∧ W.cell? ⟨w1.heap.size, 1, none⟩ = some (.slice A m.states.length c) ∧ W.cell? ⟨gb, 0, none⟩ = some (.int .i64 (k : Int)) ∧ W.cell? ⟨gb, 1, none⟩ = some (.slice Ab kb cb) ∧ Below w6.heap.size w6 W) (first | (exact KS.out _ (Below.refl _ _).drew) | (refine KS.out _ ?_; (try go_split_ands); first | exact Below.step (a := w6) (by assumption) bn | (repeat' (first | assumption | exact Below.step (a := w6) (by assumption) bn | refine Below.alloc ?_ (Below.size (show Below w6.heap.size w6 _ by first | assumption | exact Below.step (a := w6) (by assumption) bn)) _ | refine Below.setCell ?_ (by first | exact Nat.le_refl _ | exact Below.size (show Below w6.heap.size w6 _ by first | assumption | exact Below.step (a := w6) (by assumption) bn)) _ | refine Below.drew ?_))))
        (first | (go_at_call 12; go_split_ands; refine (FD.out _ (by assumption)).mono ?_; rintro e wn ⟨An, kn, cn, rfl, hFn, bn⟩; obtain ⟨cc1, ff1⟩ := bcell bn; have zs := bn.size; (try simp at zs); (try have y0 : w6.heap.size < wn.heap.size := by omega)))
      all_goals
        go_wp2_with fail
        go_meet
        case rel =>
            first
            | exact ⟨wn.heap.size, An, kn, cn, rfl, rfl, Blk.new _ _ _, fed_below hFn.o ((Below.refl _ _).alloc (Nat.le_refl _) _), by go_split_ands; assumption, by omega⟩
            | exact ⟨w6.heap.size, An, kn, cn, rfl, rfl, (((Blk.step (Blk.drew (Blk.new' rfl)) bn).put 0 _).put 1 _).eq (by simp), ((hFn.set (a := ⟨w6.heap.size, 0, none⟩) (size_ad _ _) _).set (a := ⟨w6.heap.size, 1, none⟩) (size_ad _ _) _).o, by go_split_ands; assumption, Nat.le_refl _⟩
    case rest =>
      obtain ⟨gc, Ac, kc, cc, rfl, rfl, hc7, hF7, b7, hgc⟩ := hcut
      obtain ⟨w7, rfl⟩ : ∃ wx : World, wx = wc := ⟨_, rfl⟩
      have HB7 := Lib.hid (HB6.out.trans (b7.mono HB6.out.size))
      have R7 := HR6.out.step b7; have X7 := RX6.out.step b7
      have r0 := R7.cell 1; have r1 := R7.lt; have x0 := X7.cell 0; have x1 := X7.cell 1; have x2 := X7.lt
      have y0 := hc7.cell 0; have y1 := hc7.cell 1; have y2 := hc7.lt
      simp only [List.getElem?_toArray, List.getElem?_cons_succ, List.getElem?_cons_zero] at r0 x0 x1 y0 y1
      have HSR : Hid (Calls Try.prog 13 #[.agg #[.int .i64 (xl : Int), .slice Ar4 k4 cr4], .agg #[.int .i64 (xl : Int), .slice Ac kc cc]] w7 fun e w' => e = .returned (.bool true) ∧ Below w7.heap.size w7 w') := Lib.hid (same_fed HV.out HS.out (fed_below HF6.out b7) hF7 (by have := HXL.out; omega))
      clear q0 q1 q2 q3 e1 e2 KS FD hc7 hF7 b7 R7 X7
      have ek : (0 : Int) < (k0 : Int) := by omega
      have ekn : 0 < k0 := by omega
      go_wp2_with fail
      refine HSR.out.mono ?_; rintro e w8 ⟨rfl, b8⟩
      obtain ⟨c8, f8⟩ := bcell b8
      have z8 := b8.size
      have HB8 := Lib.hid (HB7.out.trans (b8.mono HB7.out.size))
      have v0 : w8.cell? ⟨w4.heap.size, 0, none⟩ = some (.int .i64 (xl : Int)) := cell_keep b8 (Nat.le_refl _) x0
      have v1' : w8.cell? ⟨w3.heap.size, 1, none⟩ = some (.slice Ar k0 cr) := cell_keep b8 (Nat.le_refl _) r0
      clear b8 HSR c8 f8
      go_wp2_with fail
      go_ret
      exact ⟨rfl, HB8.out⟩
end streamCuts
end Go.Proofs.Ytikkmoleneioeaa
