/- paper.Show of a machine that is one. -/
import Derived.Test.YtkmnacchiagipaaDoorSheetLine
import Derived.Test.YtkmnacchiagipaaDoorPaperPlain
import Derived.Test.YtkmnacchiagipaaDoorBuild
import Derived.Deep.RegionHeld3
namespace Go.Proofs.YtkmnacchiagipaaDoor
open Go.RowKit

abbrev IsSh (b : Nat) (l : List UInt8) (w : World) : Prop := Lib.IsBuilder 116 5 b b (Lib.byteCells l) w
theorem sh_new (w : World) : IsSh w.heap.size [] (w.alloc (.cells #[.pointer none, .slice none 0 0] 116)) :=
  .inl ⟨Nat.le_refl _, .slice none 0 0, heap_alloc_new w _, World.ownsRow_nil _ _ _ _, by simp [Value.ownBlock]⟩
/-- a line of words in a slice just built -/
theorem line_l (b bk c : Nat) (l : List UInt8) (xs : List (List UInt8)) (w : World) (h : IsSh b l w) (hBw : b ≤ w.heap.size)
    (hblk : Blk w bk (xs.map fun x => Value.string ⟨x.toArray⟩).toArray 9) (hN : xs.length ≤ 1000) (hcap : xs.length ≤ c)
    (hlen : (lineL xs).length ≤ 1000000) (hll : l.length ≤ 1000000) :
    Calls Tryd.prog 43 #[.pointer (some ⟨b, 0, none⟩), .slice (some ⟨bk, 0, none⟩) xs.length c] w fun e w' => e = .returned (.tuple #[]) ∧ IsSh b (l ++ lineL xs) w' ∧ Below b w w' ∧ OthersB b w w' := by
  have e1 : (xs.map fun x => (⟨x.toArray⟩ : ByteArray)).map (·.data.toList) = xs := by rw [List.map_map]; exact List.map_id' _
  have e2 : lineB (xs.map fun x => (⟨x.toArray⟩ : ByteArray)) = lineL xs := by unfold lineB lineL; rw [e1]
  have := line_any b b bk 0 c l (xs.map fun x => (⟨x.toArray⟩ : ByteArray)) w h hBw (fun j x hx => by
    rw [hblk.cell]
    simp only [List.getElem?_map] at hx
    simp
    cases hj : xs[j]? with
    | none => rw [hj] at hx; simp at hx
    | some y => rw [hj] at hx; simp at hx; simp [hx]) hblk.lt (by simpa using hN) (by simpa using hcap) (by rw [e2]; exact hlen) hll
  rw [e2, List.length_map] at this
  exact this

theorem itoa_to (n : Int) (h0 : 0 ≤ n) (h1 : n ≤ 1000000001) (w0 w : World) (hb : Below w0.heap.size w0 w) (ht : TabP w) : Calls Tryd.prog 33 #[.int .i64 n] w fun e w' => e = .returned (.string ⟨(Lib.decDigits n.toNat).toArray⟩) ∧ Below w0.heap.size w0 w' := by
  obtain ⟨k, rfl⟩ : ∃ k : Nat, n = k := ⟨n.toNat, by omega⟩
  exact (itoa_any k (by omega) w ht).mono fun e w' h => ⟨h.1, hb.trans (h.2.mono hb.size)⟩
set_option maxRecDepth 100000 in
set_option maxHeartbeats 8000000 in
theorem Show_mach (v : Value) (m : MachL) (w : World) (hm : MachAt w v m) (hv : Valid m) (ht : TabP w) :
    Calls Tryd.prog 17 #[v] w fun e w' => e = .returned (.tuple #[.string ⟨(machT m).toArray⟩, .int .i64 0]) ∧ Below w.heap.size w w' := by
  have CH := Lib.hid (fun W (hb : Below w.heap.size w W) => Check_ok v m W (hm.below hb) hv)
  have HT := Lib.hid ht
  obtain ⟨A, c, rfl, hS⟩ := hm
  have HQ := Lib.hid (fun q hq => textQ_len hv q hq)
  have HI := Lib.hid (fun q hq t ht => textI_len hv q hq t ht)
  have hsz := hv.size; have hs0 := hv.s0; have hs1 := hv.s1
  have HL0 := Lib.hid (line0_len hv)
  have HS := Lib.hid hS; have HV := Lib.hid hv
  have HE0 := Lib.hid (textQ_zero m); have HEA := Lib.hid (textQ_all m)
  have HEI := Lib.hid (fun q h => textI_all m q h)
  have HNE := Lib.hid (machT_ne m)
  have rd := hS.rdy
  clear hS hv ht
  generalize hst : m.start = st at *
  have HSTA := Lib.hid hst; clear hst
  go_enter Tryd.func17, Tryd.ntmps17
  go_wp2_with fail
  refine (CH.out _ (by repeat' (first | exact Below.refl _ _ | assumption | refine Below.drew ?_ | refine Below.alloc ?_ (by first | omega | (simp; done) | (simp; omega)) _ | refine Below.setCell ?_ (by first | omega | (simp; done) | (simp; omega)) _))).mono ?_; rintro e w1 ⟨rfl, r1⟩
  have M1 : Blk w1 w.heap.size #[.int .i64 st, .slice A m.states.length c] 41 := Blk.step (Blk.new' rfl) r1
  have b1 : Below w.heap.size w w1 := ((by repeat' (first | exact Below.refl _ _ | assumption | refine Below.drew ?_ | refine Below.alloc ?_ (by first | omega | (simp; done) | (simp; omega)) _ | refine Below.setCell ?_ (by first | omega | (simp; done) | (simp; omega)) _)) : Below w.heap.size w _).trans (r1.mono (by simp))
  have k1 := M1.cell; have l1 := M1.lt
  have HM1 := Lib.hid M1
  clear r1 CH M1
  go_upto_region 6 with fail
  have hbl : Below w.heap.size w (w1.alloc (.cells #[.pointer none, .slice none 0 0] 116)) := (by repeat' (first | exact Below.refl _ _ | assumption | refine Below.drew ?_ | refine Below.alloc ?_ (by first | omega | (simp; done) | (simp; omega)) _ | refine Below.setCell ?_ (by first | omega | (simp; done) | (simp; omega)) _))
  have hbl1 : Below w1.heap.size w1 (w1.alloc (.cells #[.pointer none, .slice none 0 0] 116)) := (Below.refl _ _).alloc (Nat.le_refl _) _
  have hsh := sh_new w1
  have m1 := HM1.out.alloc (.cells #[.pointer none, .slice none 0 0] 116)
  have hlt : w1.heap.size < (w1.alloc (.cells #[.pointer none, .slice none 0 0] 116)).heap.size := by simp
  generalize w1.alloc (.cells #[.pointer none, .slice none 0 0] 116) = w2 at *
  have SB := Lib.hid hsh; have M2 := Lib.hid m1
  have b2 : Below w.heap.size w w2 := hbl
  have hb : w.heap.size < w1.heap.size := l1
  generalize w1.heap.size = b at *
  clear hsh k1 l1 hbl hbl1 HM1
  have c0 := m1.cell 0; have c1 := m1.cell 1; have ml := m1.lt
  go_upto_if 20 with fail
  go_cut [6] (fun p wx => p = .string ⟨(startL st).toArray⟩ ∧ Below w2.heap.size w2 wx)
  case first =>
    clear hlt
    by_cases h0 : st < 0
    · have i0 : ¬ (0 : Int) ≤ st := by omega
      have e : startL st = [45] := by unfold startL; rw [if_pos h0]
      go_wp2_with fail
      go_meet
      case rel => rw [e]; exact ⟨rfl, Below.refl _ _⟩
    · have i0 : (0 : Int) ≤ st := by omega
      obtain ⟨k, rfl⟩ : ∃ k : Nat, st = k := ⟨st.toNat, by omega⟩
      have e : startL (k : Int) = Lib.decDigits k := by unfold startL; rw [if_neg h0]; rfl
      have HII := Lib.hid (itoa_any k (by omega) w2 (HT.out.below b2))
      clear h0
      go_wp2_with fail
      refine HII.out.mono ?_; rintro e' w3 ⟨rfl, b3⟩
      go_wp2_with fail
      go_meet
      case rel => rw [e]; exact ⟨rfl, b3⟩
  case rest =>
    obtain ⟨rfl, b3⟩ := hcut
    have m3 := M2.out.step b3
    have bc : Below w.heap.size w wc := b2.trans (b3.mono b2.size)
    have sb3 : IsSh b [] wc := builder_keep SB.out b3
    have hlt3 : b < wc.heap.size := Nat.lt_of_lt_of_le hlt b3.size
    clear m1 M2 SB b2 b3 c0 c1 ml hlt
    have HM3 := Lib.hid m3; have SB3 := Lib.hid sb3; have BC := Lib.hid bc
    clear m3 sb3
    have HB4 := Lib.hid (Blk.new wc #[.string ⟨#[115, 116, 97, 114, 116]⟩, .string ⟨(startL st).toArray⟩] 9)
    have bn4 : Below wc.heap.size wc (wc.alloc (.cells #[.string ⟨#[115, 116, 97, 114, 116]⟩, .string ⟨(startL st).toArray⟩] 9)) := (Below.refl _ _).alloc (Nat.le_refl _) _
    have BN4 := Lib.hid bn4; clear bn4
    go_wp2_with fail
    refine (line_l b wc.heap.size 2 [] [wStart, startL st] _ (builder_keep SB3.out BN4.out) (by have := BN4.out.size; omega) HB4.out (by simp) (by simp) (by have := HL0.out; omega) (by simp)).mono ?_; rintro e w4 ⟨rfl, s4, b4, o4⟩
    have m4 := o4 _ _ _ (by omega) (by decide) ((HM3.out.alloc (.cells #[.string ⟨#[115, 116, 97, 114, 116]⟩, .string ⟨(startL st).toArray⟩] 9)))
    have bl4 : Below w.heap.size w w4 := BC.out.trans ((BN4.out.mono BC.out.size).trans (b4.mono (by omega)))
    have hb4 : b < w4.heap.size := by have := b4.size; have := BN4.out.size; omega
    rw [List.nil_append] at s4
    have S4 := Lib.hid s4; have HM4 := Lib.hid m4
    clear HM3 SB3 BC HB4 BN4 hlt3 s4 b4 o4 m4 bc
    have c0 := HM4.out.cell 0; have c1 := HM4.out.cell 1; have ml := HM4.out.lt
    go_wp2_with fail
    go_loopw [30] (fun qv wr => ∃ (q : Nat), q ≤ m.states.length ∧ qv = .int .i64 q ∧ IsSh b (textQ m q) wr ∧ Below w.heap.size w wr ∧ b < wr.heap.size) (fun qv _ => m.states.length - (intOf qv).toNat)
    case atStart => exact ⟨0, by omega, rfl, by rw [HE0.out]; exact S4.out, bl4, hb4⟩
    case round =>
      obtain ⟨q, hq, rfl, sq, bel, hbq⟩ := hrel
      have SQ := Lib.hid sq; clear sq S4 HM4 c0 c1 ml bl4 hb4
      have i0 : (0 : Int) ≤ ↑q := by omega
      by_cases hlt : q < m.states.length
      · have i1 : (↑q : Int) < ↑m.states.length := by omega
        have hSr := HS.out.below bel (Nat.le_refl _)
        have d0 := hSr.c0 q hlt
        obtain ⟨A', c', d1', hA'⟩ := HS.out.c1 q hlt
        have d1 := cell_keep bel (Nat.le_refl _) d1'
        have hvs := HV.out.st _ (List.getElem_mem hlt)
        have hvf := hvs.1
        unfold ValidFinal at hvf
        have HVA := Lib.hid hvs.2
        have rdA := hA'.rdy
        have HA := Lib.hid hA'
        have HIZ := Lib.hid (textI_zero m q m.states[q]); have HIS := Lib.hid (fun t (h : t < m.states[q].arcs.length) => textI_succ m q m.states[q] t h); have HIA := Lib.hid (HEI.out q hlt)
        have HIL := Lib.hid (fun t ht => HI.out q hlt t ht); have HQL := Lib.hid (HQ.out q (by omega))
        have HSL := Lib.hid (lineS_len hvs.1)
        have hal : m.states[q].arcs.length ≤ 400 := by
          have h1 := HV.out.arcs
          have : m.states[q].arcs.length ≤ arcsOf m.states := by unfold arcsOf; exact mem_sum_le _ _ (List.mem_map.2 ⟨_, List.getElem_mem hlt, rfl⟩)
          omega
        generalize m.states[q] = s at *
        have hf0 : 0 ≤ s.final := by omega
        have hf1 : s.final ≤ 1000000001 := by omega
        have lA := World.block_lt_of_cell? _ _ d0
        clear hSr hvs hvf hA' d1'
        obtain ⟨wo, rfl⟩ : ∃ wo : World, wo = wr := ⟨_, rfl⟩
        go_upto_region 12 with fail
        have X5 : Blk (wo.alloc (.cells #[.int .i64 s.final, .slice A' s.arcs.length c'] 76)) wo.heap.size #[.int .i64 s.final, .slice A' s.arcs.length c'] 76 := Blk.new _ _ _
        have b5 : Below wo.heap.size wo (wo.alloc (.cells #[.int .i64 s.final, .slice A' s.arcs.length c'] 76)) := (Below.refl _ _).alloc (Nat.le_refl _) _
        have S5 := Lib.hid (builder_keep SQ.out b5)
        have bel5 := bel.trans (b5.mono bel.size)
        have hb5 := b5.size
        generalize wo.alloc (.cells #[.int .i64 s.final, .slice A' s.arcs.length c'] 76) = w5 at *
        generalize hbs : wo.heap.size = bs at *
        have hbs' : b < bs := hbq
        have k0 := X5.cell 0; have k1 := X5.cell 1; have lx := X5.lt
        have HX5 := Lib.hid X5; have BEL5 := Lib.hid bel5
        have HSH := Lib.hid (Show_any s.final hf0 hf1 w5 (HT.out.below bel5))
        clear X5 b5 SQ d0 d1 lA bel hbs
        go_wp2_with fail
        refine HSH.out.mono ?_; rintro e w6 ⟨rfl, b6⟩
        have X6 := HX5.out.step b6
        have k0 := X6.cell 0; have k1 := X6.cell 1; have lx := X6.lt
        have HX6 := Lib.hid X6; have S6 := Lib.hid (builder_keep S5.out b6); have BEL6 := Lib.hid (BEL5.out.trans (b6.mono BEL5.out.size))
        have hb6 : b < w6.heap.size := by omega
        clear X6 b6 HX5 BEL5 HSH S5
        have HB7 := Lib.hid (Blk.new w6 #[.string ⟨#[115, 116, 97, 116, 101]⟩, .string ⟨(showL s.final).toArray⟩] 9)
        have BN7 : Hid (Below w6.heap.size w6 (w6.alloc (.cells #[.string ⟨#[115, 116, 97, 116, 101]⟩, .string ⟨(showL s.final).toArray⟩] 9))) := Lib.hid ((Below.refl _ _).alloc (Nat.le_refl _) _)
        go_wp2_with fail
        refine (line_l b w6.heap.size 2 (textQ m q) [wState, showL s.final] _ (builder_keep S6.out BN7.out) (by have := BN7.out.size; omega) HB7.out (by simp) (by simp) (by have := HSL.out; omega) (by have := HQL.out; omega)).mono ?_; rintro e w8 ⟨rfl, s8, b8, o8⟩
        have X8 := o8 _ _ _ (by omega) (by decide) (HX6.out.alloc (.cells #[.string ⟨#[115, 116, 97, 116, 101]⟩, .string ⟨(showL s.final).toArray⟩] 9))
        rw [← HIZ.out] at s8
        have S8 := Lib.hid s8
        have BEL8 := Lib.hid ((BEL6.out.trans (BN7.out.mono BEL6.out.size)).trans (b8.mono (by omega)))
        have hb8 : b < w8.heap.size := by have := b8.size; have := BN7.out.size; omega
        clear HX6 S6 BEL6 HB7 BN7 s8 b8 o8 k0 k1 lx hb6
        have k0 := X8.cell 0; have k1 := X8.cell 1; have lx := X8.lt
        clear X8
        go_wp2_with fail
        clear k0 k1 lx
        go_loopw [46] (fun tv wr => ∃ (t : Nat), t ≤ s.arcs.length ∧ tv = .int .i64 t ∧ IsSh b (textI m q s t) wr ∧ Below w.heap.size w wr ∧ b < wr.heap.size) (fun tv _ => s.arcs.length - (intOf tv).toNat)
        case atStart => exact ⟨0, by omega, rfl, S8.out, BEL8.out, hb8⟩
        case round =>
          obtain ⟨t, ht, rfl, st', bel, hbt⟩ := hrel
          have ST := Lib.hid st'; clear st' S8 BEL8 hb8
          have j0 : (0 : Int) ≤ ↑t := by omega
          by_cases hlt2 : t < s.arcs.length
          · have j1 : (↑t : Int) < ↑s.arcs.length := by omega
            have hAr := HA.out.below bel (Nat.le_refl _)
            have f0 := hAr.c0 t hlt2; have f1 := hAr.c1 t hlt2; have f2 := hAr.c2 t hlt2; have f3 := hAr.c3 t hlt2
            have hva := HVA.out _ (List.getElem_mem hlt2)
            have HIT := Lib.hid (HIS.out t hlt2)
            have HLL := Lib.hid (HIL.out t (by omega))
            have HAL := Lib.hid (arcT_len hva (by omega))
            generalize s.arcs[t] = a at *
            have g0 := hva.i0; have g1 := hva.i1; have g2 := hva.o0; have g3 := hva.o1; have g4 := hva.w0; have g5 := hva.w1; have g6 := hva.t0; have g7 := hva.t1
            have lA' := World.block_lt_of_cell? _ _ f0
            clear hAr hva
            obtain ⟨wi, rfl⟩ : ∃ wo : World, wo = wr := ⟨_, rfl⟩
            go_upto_block 3 with fail
            go_cut [] (fun wx => IsSh b (textI m q s (t + 1)) wx ∧ Below w.heap.size w wx ∧ b < wx.heap.size)
            case first =>
              go_upto_region 17 with fail
              have X5 : Blk (wi.alloc (.cells #[.int .i64 a.inn, .int .i64 a.out, .int .i64 a.wt, .int .i64 a.to] 78)) wi.heap.size #[.int .i64 a.inn, .int .i64 a.out, .int .i64 a.wt, .int .i64 a.to] 78 := Blk.new _ _ _
              have b5 : Below wi.heap.size wi (wi.alloc (.cells #[.int .i64 a.inn, .int .i64 a.out, .int .i64 a.wt, .int .i64 a.to] 78)) := (Below.refl _ _).alloc (Nat.le_refl _) _
              have S5 := Lib.hid (builder_keep ST.out b5)
              have bel5 := bel.trans (b5.mono bel.size)
              have hb5 := b5.size
              generalize wi.alloc (.cells #[.int .i64 a.inn, .int .i64 a.out, .int .i64 a.wt, .int .i64 a.to] 78) = w5 at *
              generalize hbs : wi.heap.size = bs at *
              have hlx := X5.lt
              have X5d : Blk w5.drew bs #[.int .i64 a.inn, .int .i64 a.out, .int .i64 a.wt, .int .i64 a.to] 78 := X5.drew
              have SD : Hid (IsSh b (textI m q s t) w5.drew) := Lib.hid (builder_keep S5.out (Below.refl _ _).drew)
              have BELD : Hid (Below w.heap.size w w5.drew) := Lib.hid bel5.drew
              have hdz : w5.drew.heap.size = w5.heap.size := rfl
              have TD := Lib.hid (HT.out.below BELD.out)
              clear X5 b5 S5 f0 f1 f2 f3 lA' ST bel bel5
              refine wp_region_noPanic ?_
              have KS : ∀ W, Blk W bs #[.int .i64 a.inn, .int .i64 a.out, .int .i64 a.wt, .int .i64 a.to] 78 → W.cell? ⟨bs, 0, none⟩ = some (.int .i64 a.inn) ∧ W.cell? ⟨bs, 1, none⟩ = some (.int .i64 a.out) ∧ W.cell? ⟨bs, 2, none⟩ = some (.int .i64 a.wt) ∧ W.cell? ⟨bs, 3, none⟩ = some (.int .i64 a.to) := fun W h => ⟨h.cell 0, h.cell 1, h.cell 2, h.cell 3⟩
              refine wp_region_held_drew (S := fun W => W.cell? ⟨bs, 0, none⟩ = some (.int .i64 a.inn) ∧ W.cell? ⟨bs, 1, none⟩ = some (.int .i64 a.out) ∧ W.cell? ⟨bs, 2, none⟩ = some (.int .i64 a.wt) ∧ W.cell? ⟨bs, 3, none⟩ = some (.int .i64 a.to)) (by kernel_rfl) (KS _ X5d) (fun hHeld => ?_)
              generalize w5.drew = w6 at *
              have HX := Lib.hid X5d
              have KC : Hid (∀ W, Below w6.heap.size w6 W → W.cell? ⟨bs, 0, none⟩ = some (.int .i64 a.inn) ∧ W.cell? ⟨bs, 1, none⟩ = some (.int .i64 a.out) ∧ W.cell? ⟨bs, 2, none⟩ = some (.int .i64 a.wt) ∧ W.cell? ⟨bs, 3, none⟩ = some (.int .i64 a.to)) := Lib.hid (fun W hb => KS _ (HX.out.step hb))
              have KA : Hid (∀ W, Below w6.heap.size w6 W → ∀ o, (W.alloc o).cell? ⟨bs, 0, none⟩ = some (.int .i64 a.inn) ∧ (W.alloc o).cell? ⟨bs, 1, none⟩ = some (.int .i64 a.out) ∧ (W.alloc o).cell? ⟨bs, 2, none⟩ = some (.int .i64 a.wt) ∧ (W.alloc o).cell? ⟨bs, 3, none⟩ = some (.int .i64 a.to)) := Lib.hid (fun W hb o => KS _ ((HX.out.step hb).alloc o))
              have I0 := Lib.hid (fun W hb => itoa_to a.inn g0 (by omega) w6 W hb (TD.out.below hb)); have I1 := Lib.hid (fun W hb => itoa_to a.out g2 (by omega) w6 W hb (TD.out.below hb)); have I2 := Lib.hid (fun W hb => itoa_to a.wt g4 (by omega) w6 W hb (TD.out.below hb)); have I3 := Lib.hid (fun W hb => itoa_to a.to g6 (by omega) w6 W hb (TD.out.below hb))
              have LX : Hid (∀ W, Below w6.heap.size w6 W → Calls Tryd.prog 43 #[.pointer (some ⟨b, 0, none⟩), .slice (some ⟨W.heap.size, 0, none⟩) 5 5] (W.alloc (.cells #[.string ⟨#[97, 114, 99]⟩, .string ⟨(Lib.decDigits a.to.toNat).toArray⟩, .string ⟨(Lib.decDigits a.inn.toNat).toArray⟩, .string ⟨(Lib.decDigits a.out.toNat).toArray⟩, .string ⟨(Lib.decDigits a.wt.toNat).toArray⟩] 9)) fun e w' => e = .returned (.tuple #[]) ∧ (IsSh b (textI m q s (t + 1)) w' ∧ Below w.heap.size w w' ∧ b < w'.heap.size) ∧ (w'.cell? ⟨bs, 0, none⟩ = some (.int .i64 a.inn) ∧ w'.cell? ⟨bs, 1, none⟩ = some (.int .i64 a.out) ∧ w'.cell? ⟨bs, 2, none⟩ = some (.int .i64 a.wt) ∧ w'.cell? ⟨bs, 3, none⟩ = some (.int .i64 a.to))) := Lib.hid (fun W hb => by
                have ba : Below W.heap.size W (W.alloc (.cells #[.string ⟨#[97, 114, 99]⟩, .string ⟨(Lib.decDigits a.to.toNat).toArray⟩, .string ⟨(Lib.decDigits a.inn.toNat).toArray⟩, .string ⟨(Lib.decDigits a.out.toNat).toArray⟩, .string ⟨(Lib.decDigits a.wt.toNat).toArray⟩] 9)) := (Below.refl _ _).alloc (Nat.le_refl _) _
                have hsz1 := hb.size; have hsz2 := ba.size
                refine (line_l b W.heap.size 5 (textI m q s t) [wArc, Lib.decDigits a.to.toNat, Lib.decDigits a.inn.toNat, Lib.decDigits a.out.toNat, Lib.decDigits a.wt.toNat] _ (builder_keep (builder_keep SD.out hb) ba) (by omega) (Blk.new W _ _) (by simp) (by simp) (by have := HAL.out; unfold arcT at this; omega) (by have := HLL.out; omega)).mono ?_
                rintro e w' ⟨rfl, s8, b8, o8⟩
                have := b8.size
                exact ⟨rfl, ⟨by rw [HIT.out]; exact s8, (BELD.out.trans (hb.mono BELD.out.size)).trans ((ba.mono (by have := BELD.out.size; omega)).trans (b8.mono (by omega))), by omega⟩, KS _ (o8 _ _ _ (by omega) (by decide) ((HX.out.step hb).alloc _))⟩)
              have B0 : Below w6.heap.size w6 w6 := Below.refl _ _
              refine wpAnyH_take (i := 0) (v := ?v0) (by simp only [List.getElem?_toArray, List.getElem?_cons_zero]; rfl) (by kernel_rfl) (by kernel_rfl) (by kernel_rfl) (fun _ _ _ h => h) (Or.inl ⟨by rfl, ?h0⟩) hHeld ?r0
              case h0 => intro w hSw; (try dsimp only at hSw); go_simp; with_reducible rfl
              simp only [Act.put, List.setIfInBounds_toArray, List.set_cons_zero, List.set_cons_succ]
              refine wpAnyH_take (i := 1) (v := ?v1) (by simp only [List.getElem?_toArray, List.getElem?_cons_succ, List.getElem?_cons_zero]; rfl) (by kernel_rfl) (by kernel_rfl) (by kernel_rfl) (fun _ _ _ h => h) (Or.inl ⟨by rfl, ?h1⟩) hHeld ?r1
              case h1 => intro w hSw; (try dsimp only at hSw); go_simp; with_reducible rfl
              simp only [Act.put, List.setIfInBounds_toArray, List.set_cons_zero, List.set_cons_succ]
              refine wpAnyH_take (i := 3) (v := ?v3) (by simp only [List.getElem?_toArray, List.getElem?_cons_succ, List.getElem?_cons_zero]; rfl) (by kernel_rfl) (by kernel_rfl) (by kernel_rfl) (fun _ _ _ h => h) (Or.inl ⟨by rfl, ?h3⟩) hHeld ?r3
              case h3 => intro w hSw; (try dsimp only at hSw); go_simp; with_reducible rfl
              simp only [Act.put, List.setIfInBounds_toArray, List.set_cons_zero, List.set_cons_succ]
              refine wpAnyH_take (i := 4) (v := ?v4) (by simp only [List.getElem?_toArray, List.getElem?_cons_succ, List.getElem?_cons_zero]; rfl) (by kernel_rfl) (by kernel_rfl) (by kernel_rfl) (fun _ _ _ h => h) (Or.inl ⟨by rfl, ?h4⟩) hHeld ?r4
              case h4 => intro w hSw; (try dsimp only at hSw); go_simp; with_reducible rfl
              simp only [Act.put, List.setIfInBounds_toArray, List.set_cons_zero, List.set_cons_succ]
              refine wpAnyH_take (i := 6) (v := ?v6) (by simp only [List.getElem?_toArray, List.getElem?_cons_succ, List.getElem?_cons_zero]; rfl) (by kernel_rfl) (by kernel_rfl) (by kernel_rfl) (fun _ _ _ h => h) (Or.inl ⟨by rfl, ?h6⟩) hHeld ?r6
              case h6 => intro w hSw; (try dsimp only at hSw); go_simp; with_reducible rfl
              simp only [Act.put, List.setIfInBounds_toArray, List.set_cons_zero, List.set_cons_succ]
              refine wpAnyH_take (i := 7) (v := ?v7) (by simp only [List.getElem?_toArray, List.getElem?_cons_succ, List.getElem?_cons_zero]; rfl) (by kernel_rfl) (by kernel_rfl) (by kernel_rfl) (fun _ _ _ h => h) (Or.inl ⟨by rfl, ?h7⟩) hHeld ?r7
              case h7 => intro w hSw; (try dsimp only at hSw); go_simp; with_reducible rfl
              simp only [Act.put, List.setIfInBounds_toArray, List.set_cons_zero, List.set_cons_succ]
              refine wpAnyH_take (i := 9) (v := ?v9) (by simp only [List.getElem?_toArray, List.getElem?_cons_succ, List.getElem?_cons_zero]; rfl) (by kernel_rfl) (by kernel_rfl) (by kernel_rfl) (fun _ _ _ h => h) (Or.inl ⟨by rfl, ?h9⟩) hHeld ?r9
              case h9 => intro w hSw; (try dsimp only at hSw); go_simp; with_reducible rfl
              simp only [Act.put, List.setIfInBounds_toArray, List.set_cons_zero, List.set_cons_succ]
              refine wpAnyH_take (i := 10) (v := ?v10) (by simp only [List.getElem?_toArray, List.getElem?_cons_succ, List.getElem?_cons_zero]; rfl) (by kernel_rfl) (by kernel_rfl) (by kernel_rfl) (fun _ _ _ h => h) (Or.inl ⟨by rfl, ?h10⟩) hHeld ?r10
              case h10 => intro w hSw; (try dsimp only at hSw); go_simp; with_reducible rfl
              simp only [Act.put, List.setIfInBounds_toArray, List.set_cons_zero, List.set_cons_succ]
              --TREE
              refine wpAnyH_ready (rs := [2]) (by kernel_rfl) (by simp) (AllReadyH.cons (by simp only [List.getElem?_toArray, List.getElem?_cons_succ, List.getElem?_cons_zero]; rfl) (fun K hK => ?_) AllReadyH.nil)
              go_simp
              refine (I3.out _ B0).mono ?_; rintro e W1 ⟨rfl, B1⟩
              go_wp2_with fail
              refine hK.out _ _ (KC.out _ B1) (fun hHeld => ?_)
              clear hK K
              (try simp only [Act.put, List.setIfInBounds_toArray, List.set_cons_zero, List.set_cons_succ])
              refine wpAnyH_ready (rs := [5]) (by kernel_rfl) (by simp) (AllReadyH.cons (by simp only [List.getElem?_toArray, List.getElem?_cons_succ, List.getElem?_cons_zero]; rfl) (fun K hK => ?_) AllReadyH.nil)
              go_simp
              refine (I0.out _ B1).mono ?_; rintro e W2 ⟨rfl, B2⟩
              go_wp2_with fail
              refine hK.out _ _ (KC.out _ B2) (fun hHeld => ?_)
              clear hK K
              (try simp only [Act.put, List.setIfInBounds_toArray, List.set_cons_zero, List.set_cons_succ])
              refine wpAnyH_ready (rs := [8]) (by kernel_rfl) (by simp) (AllReadyH.cons (by simp only [List.getElem?_toArray, List.getElem?_cons_succ, List.getElem?_cons_zero]; rfl) (fun K hK => ?_) AllReadyH.nil)
              go_simp
              refine (I1.out _ B2).mono ?_; rintro e W3 ⟨rfl, B3⟩
              go_wp2_with fail
              refine hK.out _ _ (KC.out _ B3) (fun hHeld => ?_)
              clear hK K
              (try simp only [Act.put, List.setIfInBounds_toArray, List.set_cons_zero, List.set_cons_succ])
              refine wpAnyH_ready (rs := [11]) (by kernel_rfl) (by simp) (AllReadyH.cons (by simp only [List.getElem?_toArray, List.getElem?_cons_succ, List.getElem?_cons_zero]; rfl) (fun K hK => ?_) AllReadyH.nil)
              go_simp
              refine (I2.out _ B3).mono ?_; rintro e W4 ⟨rfl, B4⟩
              go_wp2_with fail
              refine hK.out _ _ (KC.out _ B4) (fun hHeld => ?_)
              clear hK K
              (try simp only [Act.put, List.setIfInBounds_toArray, List.set_cons_zero, List.set_cons_succ])
              refine wpAnyH_ready (rs := [12]) (by kernel_rfl) (by simp) (AllReadyH.cons (by simp only [List.getElem?_toArray, List.getElem?_cons_succ, List.getElem?_cons_zero]; rfl) (fun K hK => ?_) AllReadyH.nil)
              have LN := Lib.hid (LX.out W4 B4)
              go_simp
              go_wp2_with fail
              refine hK.out _ _ (KA.out W4 B4 _) (fun hHeld => ?_)
              clear hK K
              (try simp only [Act.put, List.setIfInBounds_toArray, List.set_cons_zero, List.set_cons_succ])
              refine wpAnyH_ready (rs := [13]) (by kernel_rfl) (by simp) (AllReadyH.cons (by simp only [List.getElem?_toArray, List.getElem?_cons_succ, List.getElem?_cons_zero]; rfl) (fun K hK => ?_) AllReadyH.nil)
              go_simp
              refine LN.out.mono ?_; rintro e W9 ⟨rfl, h9, c9⟩
              go_wp2_with fail
              refine hK.out _ _ c9 (fun hHeld => ?_)
              clear hK K
              refine wpAnyH_done (by kernel_rfl) ?_ _
              refine NoPanic.normal ?_
              go_wp2_with fail
              go_meet
              case rel => exact h9
              --EERT
            case rest =>
              obtain ⟨hs9, hb9, hl9⟩ := hcut
              have HS9 := Lib.hid hs9; clear hs9
              go_wp2_with fail
              go_roundw
              case rel => exact ⟨t + 1, by omega, by go_num, HS9.out, hb9, hl9⟩
              case measure => simp [intOf]; omega
          · obtain rfl : t = s.arcs.length := by omega
            have j1 : ¬ (↑s.arcs.length : Int) < ↑s.arcs.length := by omega
            go_wp2_with fail
            go_roundw
            case rel => exact ⟨q + 1, by omega, by go_num, by rw [← HIA.out]; exact ST.out, bel, hbt⟩
            case measure => simp [intOf]; omega
      · obtain rfl : q = m.states.length := by omega
        have i1 : ¬ (↑m.states.length : Int) < ↑m.states.length := by omega
        have HTX := Lib.hid (sheet_text b b (machT m) wr (by rw [← HEA.out]; exact SQ.out) HNE.out)
        go_wp2_with fail
        refine HTX.out.mono ?_; rintro e w9 ⟨rfl, b9⟩
        go_wp2_with fail
        go_ret2
        exact ⟨rfl, bel.trans (b9.mono (by omega))⟩
end Go.Proofs.YtkmnacchiagipaaDoor
