/- stream.End. -/
import Derived.Test.YtikkmoleneioeaaStreamFeedPl
namespace Go.Proofs.Ytikkmoleneioeaa
open Go.RowKit

theorem goodW_nil : GoodW [] := fun a ha => by cases ha
/-- what may come out of the first marks -/
def EndL (m : MachL) (l : List (Nat × KeyL)) (k : KeyL) : Prop := ∃ x ∈ l, finQ m x.1 ≠ INF ∧ k = ⟨x.2.c + finQ m x.1, x.2.out⟩
theorem endL_all {m : MachL} {L : TabK} (hq : ∀ q k, L q = some k → q < m.states.length) (k : KeyL) : EndL m (marksL L m.states.length) k ↔ EndK m L k := by
  unfold EndL EndK marksL
  constructor
  · rintro ⟨x, hx, h1, h2⟩
    obtain ⟨p, hp, rfl⟩ := List.mem_map.1 hx
    have hs : (L p).isSome = true := by unfold hasL at hp; exact (List.mem_filter.1 hp).2
    obtain ⟨k0, hk0⟩ := Option.isSome_iff_exists.1 hs
    have hg : getK L p = k0 := by unfold getK; rw [hk0]; rfl
    simp only [hg] at h2
    exact ⟨p, k0, hk0, h1, h2⟩
  · rintro ⟨p, k0, hk0, h1, h2⟩
    have hg : getK L p = k0 := by unfold getK; rw [hk0]; rfl
    refine ⟨(p, k0), List.mem_map.2 ⟨p, ?_, by rw [hg]⟩, h1, h2⟩
    unfold hasL
    exact List.mem_filter.2 ⟨List.mem_range.2 (hq p k0 hk0), by rw [hk0]; rfl⟩
def betO (o : Option KeyL) (k : KeyL) : Bool := match o with | none => true | some k0 => decide (klt k k0)
def minO (o : Option KeyL) (k : KeyL) : Option KeyL := if betO o k = true then some k else o
theorem minO_ok {T : KeyL → Prop} {o : Option KeyL} (h : MinK T o) (k : KeyL) : MinK (fun k' => T k' ∨ k' = k) (minO o k) := by
  unfold minO betO
  cases o with
  | none =>
    simp only [if_true]
    refine ⟨fun k' hk => .inr (Option.some.inj hk).symm, fun k' hk => ⟨k, rfl, ?_⟩⟩
    rcases hk with hk | rfl
    · obtain ⟨x, hx, -⟩ := h.2 k' hk; cases hx
    · exact klt.irrefl _
  | some k0 =>
    by_cases hlt : klt k k0
    · simp only [hlt, decide_true, if_true]
      refine ⟨fun k' hk => .inr (Option.some.inj hk).symm, fun k' hk => ⟨k, rfl, ?_⟩⟩
      rcases hk with hk | rfl
      · obtain ⟨x, hx, hn⟩ := h.2 k' hk
        obtain rfl := Option.some.inj hx
        exact nklt_trans hlt.nle hn
      · exact klt.irrefl _
    · simp only [hlt, decide_false, Bool.false_eq_true, if_false]
      refine ⟨fun k' hk => .inl (h.1 k' hk), fun k' hk => ?_⟩
      rcases hk with hk | rfl
      · exact h.2 k' hk
      · exact ⟨k0, rfl, hlt⟩
theorem endL_snoc {m : MachL} {l : List (Nat × KeyL)} {i : Nat} (h : i < l.length) (k : KeyL) : EndL m (l.take (i + 1)) k ↔ (EndL m (l.take i) k ∨ (finQ m l[i].1 ≠ INF ∧ k = ⟨l[i].2.c + finQ m l[i].1, l[i].2.out⟩)) := by
  unfold EndL
  rw [List.take_succ_eq_append_getElem h]
  constructor
  · rintro ⟨x, hx, h1⟩
    rcases List.mem_append.1 hx with hx | hx
    · exact .inl ⟨x, hx, h1⟩
    · rw [List.mem_singleton.1 hx] at h1; exact .inr h1
  · rintro (⟨x, hx, h1⟩ | h1)
    · exact ⟨x, List.mem_append_left _ hx, h1⟩
    · exact ⟨l[i], List.mem_append_right _ (List.mem_singleton.2 rfl), h1⟩
/-- what End answers -/
def EndA (m : MachL) (x : List Int) (w : World) (e : Ending) : Prop :=
  (e = .returned (.tuple #[.slice none 0 0, .int .i64 0, .int .i64 12]) ∧ ∀ k : KeyL, ¬ Tot m x k.out false k.c) ∨
  ∃ (k : KeyL) (A : Option Addr) (c : Nat), e = .returned (.tuple #[.slice A k.out.length c, .int .i64 k.c, .int .i64 0]) ∧ Rd w A k.out.length 1 (icells k.out) ∧ Tot m x k.out false k.c ∧ GoodW k.out ∧ (k.out.length ≤ 800 ∧ k.c ≤ 200000000) ∧ ∀ k' : KeyL, Tot m x k'.out false k'.c → ¬ klt k' k
set_option maxRecDepth 100000 in
set_option maxHeartbeats 8000000 in
theorem End_any (v rv0 : Value) (m : MachL) (w : World) (WW F : Int) (AA : Nat) (x : List Int) (L : TabK) (hm : MachAt w v m) (hv : Valid m) (hs : SmallS m WW AA) (hr : RunAt w (fun _ => False) rv0 L m.states.length (x.length : Nat)) (hst : StT m WW x L) (hx : x.length ≤ 12) (hW : WW ≤ 100000) (hF : ∀ q, finQ m q ≠ INF → finQ m q ≤ F) (hF1 : F ≤ 100000000) :
    Calls Try.prog 14 #[v, rv0] w fun e w' => EndA m x w' e ∧ Below w.heap.size w w' := by
  obtain ⟨Ar, cr, rfl, hM⟩ := hr
  have hmay := hst.may hv hs hx
  have CH := Lib.hid (fun W (hb : Below w.heap.size w W) => Check_ok v m W (hm.below hb) hv)
  have hml := marksL_len L m.states.length
  have hsz := hv.size
  have hbk : ∀ y ∈ marksL L m.states.length, y.2.c ≤ 100000000 := fun y hy => by
    unfold marksL at hy
    obtain ⟨p, hp, rfl⟩ := List.mem_map.1 hy
    have hs' : (L p).isSome = true := by unfold hasL at hp; exact (List.mem_filter.1 hp).2
    obtain ⟨k0, hk0⟩ := Option.isSome_iff_exists.1 hs'
    have hg : getK L p = k0 := by unfold getK; rw [hk0]; rfl
    simp only [hg]
    have h1 := (hst.kb p k0 hk0).2
    have h2 := bound_le hsz hx
    have h3 : ((boundS m.states.length x.length : Nat) : Int) * WW ≤ 792 * WW := Int.mul_le_mul_of_nonneg_right (by omega) hs.w0
    omega
  have HEL := Lib.hid (fun k => endL_all (m := m) (L := L) (fun q k hk => (hst.tab.good hv hk).1) k)
  have HTB := Lib.hid (fun (o : Option KeyL) (h : MinK (EndK m L) o) => end_tot hst.tab h)
  generalize marksL L m.states.length = l at *
  have HM := Lib.hid hM; have HMAY := Lib.hid hmay; have HBK := Lib.hid hbk
  obtain ⟨A, c, rfl, hS⟩ := hm
  have HS := Lib.hid hS
  have HFQ : Hid (∀ q (h : q < m.states.length), finQ m q = m.states[q].final) := Lib.hid fun q h => by unfold finQ; rw [List.getElem?_eq_getElem h]; rfl
  have HF := Lib.hid hF
  have HFN := Lib.hid (fun q (h : finQ m q ≠ INF) => (finQ_ok hv h).1)
  have HVF : Hid (∀ q (h : q < m.states.length), ValidFinal m.states[q].final) := Lib.hid fun q h => (hv.st _ (List.getElem_mem h)).1
  have MY := Lib.hid (fun W (hb : Below w.heap.size w W) => may_ok m.start A Ar m.states.length c cr l (x.length : Nat) W (hM.below hb) hmay (by omega) hsz (by omega))
  have rdm := hS.rdy; have rdr := hM.rdy
  generalize hxl : x.length = xl at *
  clear hv hs hst hS hM hmay hxl hF hbk
  go_enter Try.func14, Try.ntmps14
  go_wp2_with fail
  refine (CH.out _ (by repeat' (first | exact Below.refl _ _ | assumption | refine Below.drew ?_ | refine Below.alloc ?_ (by first | omega | (simp; done) | (simp; omega)) _ | refine Below.setCell ?_ (by first | omega | (simp; done) | (simp; omega)) _))).mono ?_; rintro e w1 ⟨rfl, bel⟩; obtain ⟨c1, f1⟩ := bcell bel; have z1 := bel.size; simp at z1; (try have y0 : w.heap.size < w1.heap.size := by omega); (try have y1 : w.heap.size + 1 < w1.heap.size := by omega); (try have y2 : w.heap.size + 1 + 1 < w1.heap.size := by omega); (try have y3 : w.heap.size + 1 + 1 + 1 < w1.heap.size := by omega); (try have y4 : w.heap.size + 1 + 1 + 1 + 1 < w1.heap.size := by omega); (try have y5 : w.heap.size + 1 + 1 + 1 + 1 + 1 < w1.heap.size := by omega); (try have y6 : w.heap.size + 1 + 1 + 1 + 1 + 1 + 1 < w1.heap.size := by omega)
  go_wp2_with fail
  refine (MY.out _ (by repeat' (first | exact Below.refl _ _ | assumption | refine Below.step ?_ bel | refine Below.drew ?_ | refine Below.alloc ?_ (by first | omega | (simp; done) | (simp; omega)) _ | refine Below.setCell ?_ (by first | omega | (simp; done) | (simp; omega)) _))).mono ?_; rintro e w2 ⟨rfl, b2⟩
  have bel2 := bel.trans (b2.mono bel.size)
  have B3 : Below w.heap.size w ((w.alloc (.cells #[.int .i64 m.start, .slice A m.states.length c] 28)).alloc (.cells #[.int .i64 (xl : Int), .slice Ar l.length cr] 34)) := (by repeat' (first | exact Below.refl _ _ | assumption | refine Below.drew ?_ | refine Below.alloc ?_ (by first | omega | (simp; done) | (simp; omega)) _ | refine Below.setCell ?_ (by first | omega | (simp; done) | (simp; omega)) _))
  have bw := B3.trans (bel2.mono B3.size)
  have Q0 : Blk ((w.alloc (.cells #[.int .i64 m.start, .slice A m.states.length c] 28)).alloc (.cells #[.int .i64 (xl : Int), .slice Ar l.length cr] 34)) w.heap.size #[.int .i64 m.start, .slice A m.states.length c] 28 := (Blk.new _ _ _).alloc _
  have Q1 : Blk ((w.alloc (.cells #[.int .i64 m.start, .slice A m.states.length c] 28)).alloc (.cells #[.int .i64 (xl : Int), .slice Ar l.length cr] 34)) (w.heap.size + 1) #[.int .i64 (xl : Int), .slice Ar l.length cr] 34 := Blk.new' (by simp)
  have P0 := Lib.hid (Q0.step bel2)
  have P1 := (Q1.step bel2).alloc (.cells #[.int .i64 (-1), .int .i64 0, .slice none 0 0] 71)
  have u1 := P1.cell 1; have ul := (Q1.step bel2).lt
  simp only [List.getElem?_toArray, List.getElem?_cons_succ, List.getElem?_cons_zero] at u1
  have BW := Lib.hid bw
  have hwl := (Q0.step bel2).lt
  have HG0 : Hid (Below w2.heap.size w2 (w2.alloc (.cells #[.int .i64 (-1), .int .i64 0, .slice none 0 0] 71))) := Lib.hid ((Below.refl _ _).alloc (Nat.le_refl _) _)
  have HBB := Lib.hid (Blk.new w2 #[.int .i64 (-1), .int .i64 0, .slice none 0 0] 71)
  clear c1 f1 z1 y0 y1 bel b2 bel2 B3 bw Q0 Q1 P1 CH MY
  go_wp2_with fail
  clear u1
  generalize w2.alloc (.cells #[.int .i64 (-1), .int .i64 0, .slice none 0 0] 71) = w5 at *
  go_loopw [25] (fun iv W => ∃ (i : Nat) (o : Option KeyL) (bq : Int) (kb : KeyL) (Ab : Option Addr) (cb : Nat), i ≤ l.length ∧ iv = .int .i64 i ∧ Below w2.heap.size w2 W ∧ Blk W w2.heap.size #[.int .i64 bq, .int .i64 kb.c, .slice Ab kb.out.length cb] 71 ∧ Rd w Ab kb.out.length 1 (icells kb.out) ∧ ((o = none ∧ bq = -1) ∨ (o = some kb ∧ 0 ≤ bq)) ∧ MinK (EndL m (l.take i)) o ∧ GoodW kb.out ∧ kb.out.length ≤ 800 ∧ kb.c ≤ 200000000) (fun iv _ => l.length - (intOf iv).toNat)
  case atStart => exact ⟨0, none, -1, ⟨0, []⟩, none, 0, by omega, rfl, HG0.out, HBB.out, Rd.nil _ _ _, .inl ⟨rfl, rfl⟩, ⟨fun k hk => by simp at hk, fun k hk => by obtain ⟨y, hy, -⟩ := hk; simp at hy⟩, goodW_nil, Nat.zero_le _, by show (0 : Int) ≤ 200000000; omega⟩
  case round =>
    obtain ⟨i, o, bq, ⟨kbc, kbo⟩, Ab, cb, hi, rfl, bel, hB, hrb, hob, hMin, hgb, hlb, hcb⟩ := hrel
    simp only at hB hrb hgb hlb hcb
    have i0 : (0 : Int) ≤ ↑i := by omega
    have HBEL := Lib.hid bel; have HB := Lib.hid hB; have HRB := Lib.hid hrb; have HMin := Lib.hid hMin; have HGB := Lib.hid hgb
    have hww := BW.out.trans (bel.mono BW.out.size)
    have HWW := Lib.hid hww
    by_cases hit : i < l.length
    · have i1 : (↑i : Int) < ↑l.length := by omega
      have hMr := HM.out.below hww
      have d0 := hMr.c0 i hit; have d1 := hMr.c1 i hit
      obtain ⟨A3, c3, d2', hr3, -⟩ := HM.out.c2 i hit
      have d2 := cell_keep hww (Nat.le_refl _) d2'
      have hok := HMAY.out.ok _ (List.getElem_mem hit)
      have hbk := HBK.out _ (List.getElem_mem hit)
      have lA := World.block_lt_of_cell? _ _ d0
      have HSN := Lib.hid (fun k => endL_snoc (m := m) hit k)
      generalize l[i] = y at *
      obtain ⟨q, kc, ko⟩ := y
      simp only at d0 d1 d2 d2' hr3 hok hbk HSN
      obtain ⟨hqn, hgo, ⟨hc0, hc1⟩, hlen⟩ := hok
      have s0 := (HS.out.below hww (Nat.le_refl _)).c0 q hqn
      rw [← HFQ.out q hqn] at s0
      have hvf := HVF.out q hqn
      rw [← HFQ.out q hqn] at hvf
      have hfn := HFN.out q; have hff := HF.out q
      have lB := World.block_lt_of_cell? _ _ s0
      have q0 : (0 : Int) ≤ (q : Int) := by omega
      have q1 : (q : Int) < (m.states.length : Int) := by omega
      obtain ⟨wq, rfl⟩ : ∃ wq : World, wq = wr := ⟨_, rfl⟩
      have mb1 := (P0.out.step bel).cell 1; have mbl := (P0.out.step bel).lt
      have b0 := hB.cell 0; have b1 := hB.cell 1; have b2 := hB.cell 2; have b3 := hB.froz
      simp only [List.getElem?_toArray, List.getElem?_cons_succ, List.getElem?_cons_zero] at mb1 b0 b1 b2
      have bl := hB.lt
      have hval : INF = 1000000001 := rfl
      generalize finQ m q = f at *
      unfold ValidFinal at hvf
      have hwr : wrap64 (kc + f) = kc + f := by unfold wrap64; omega
      by_cases hfi : f = 1000000001
      · have hb : (f != 1000000001) = false := by simp [hfi]
        have hEq : ∀ k, EndL m (l.take (i + 1)) k ↔ EndL m (l.take i) k := fun k => by
          rw [HSN.out k, hval]
          exact ⟨fun h => h.resolve_right fun h => h.1 hfi, .inl⟩
        have HMi := Lib.hid (hMin.congr fun k => (hEq k).symm)
        have HOB := Lib.hid hob
        clear hMin hEq hfi hob hB hrb hgb hMr hr3 hgo bel hww d2' hfn hff hvf hval
        go_wp2_with fail
        go_roundw
        case rel => exact ⟨i + 1, o, bq, ⟨kbc, kbo⟩, Ab, cb, by omega, by go_num, HBEL.out.alloc HBEL.out.size _, HB.out.alloc _, HRB.out, HOB.out, HMi.out, HGB.out, hlb, hcb⟩
        case measure => simp [intOf]; omega
      · have hb : (f != 1000000001) = true := by simp [hfi]
        have hfi' : f ≠ INF := hfi
        have hMi := minO_ok hMin ⟨kc + f, ko⟩
        have hMi2 : MinK (EndL m (l.take (i + 1))) (minO o ⟨kc + f, ko⟩) := hMi.congr fun k => by rw [HSN.out k]; simp [hfi']
        have HMi := Lib.hid hMi2
        have hff' := hff hfi'; have hfn' := hfn hfi'
        have HGO := Lib.hid hgo; have HR3 := Lib.hid hr3
        rcases hob with ⟨rfl, rfl⟩ | ⟨rfl, hbq⟩
        · have hmo : minO none ⟨kc + f, ko⟩ = some ⟨kc + f, ko⟩ := rfl
          rw [hmo] at HMi
          clear hMin hMi hMi2 hfi hfi' hB hrb hgb hMr hr3 hgo bel hww d2' hfn hff hvf hval hmo
          go_wp2_with fail
          go_roundw
          case rel =>
            refine ⟨i + 1, some ⟨kc + f, ko⟩, (q : Int), ⟨kc + f, ko⟩, A3, c3, by omega, by go_num, ?_, ?_, HR3.out, .inr ⟨rfl, q0⟩, HMi.out, HGO.out, hlen, by show kc + f ≤ 200000000; omega⟩
            · exact (((HBEL.out.setCell (p := ⟨w2.heap.size, 0, none⟩) (Nat.le_refl _) _).setCell (p := ⟨w2.heap.size, 1, none⟩) (Nat.le_refl _) _).setCell (p := ⟨w2.heap.size, 2, none⟩) (Nat.le_refl _) _).alloc (by simpa using HBEL.out.size) _
            · exact ((((HB.out.put 0 (.int .i64 (q : Int))).put 1 (.int .i64 (kc + f))).put 2 (.slice A3 ko.length c3)).eq (by simp)).alloc _
          case measure => simp [intOf]; omega
        · have bz : ¬ bq < 0 := by omega
          have LS := Lib.hid (less_any (q : Int) bq ⟨kc + f, ko⟩ ⟨kbc, kbo⟩ A3 Ab c3 cb (wq.alloc (.cells #[.int .i64 (q : Int), .int .i64 (kc + f), .slice A3 ko.length c3] 71)) (hr3.below (hww.alloc hww.size _) rfl) (hrb.below (hww.alloc hww.size _) rfl) hgo hgb (by simp only; omega) (by simp only; omega))
          simp only [markV] at LS
          have XX := Lib.hid (Blk.new wq #[.int .i64 (q : Int), .int .i64 (kc + f), .slice A3 ko.length c3] 71)
          have BA := Lib.hid (hB.alloc (.cells #[.int .i64 (q : Int), .int .i64 (kc + f), .slice A3 ko.length c3] 71))
          have BE := Lib.hid (bel.alloc bel.size (.cells #[.int .i64 (q : Int), .int .i64 (kc + f), .slice A3 ko.length c3] 71))
          have hmo : minO (some ⟨kbc, kbo⟩) ⟨kc + f, ko⟩ = if decide (klt ⟨kc + f, ko⟩ ⟨kbc, kbo⟩) = true then some ⟨kc + f, ko⟩ else some ⟨kbc, kbo⟩ := rfl
          rw [hmo] at HMi
          clear hMin hMi hMi2 hfi hfi' hB hrb hgb hMr hr3 hgo bel hww d2' hfn hff hvf hval hmo
          generalize decide (klt ⟨kc + f, ko⟩ ⟨kbc, kbo⟩) = d at *
          go_wp2_with fail
          refine LS.out.mono ?_; rintro e w8 ⟨rfl, b8⟩
          have B8 := BA.out.step b8; have X8 := XX.out.step b8
          have HB8 := Lib.hid B8
          have HE8 := Lib.hid (BE.out.trans (b8.mono BE.out.size))
          have g0 := B8.cell 0; have g1 := B8.cell 1; have g2 := B8.cell 2; have g3 := B8.froz; have gl := B8.lt
          have x0 := X8.cell 0; have x1 := X8.cell 1; have x2 := X8.cell 2; have xl8 := X8.lt
          simp only [List.getElem?_toArray, List.getElem?_cons_succ, List.getElem?_cons_zero] at g0 g1 g2 x0 x1 x2
          clear B8 X8 b8 LS XX BA BE
          cases d
          · simp only [Bool.false_eq_true, if_false] at HMi
            go_wp2_with fail
            go_roundw
            case rel => exact ⟨i + 1, some ⟨kbc, kbo⟩, bq, ⟨kbc, kbo⟩, Ab, cb, by omega, by go_num, HE8.out, HB8.out, HRB.out, .inr ⟨rfl, hbq⟩, HMi.out, HGB.out, hlb, hcb⟩
            case measure => simp [intOf]; omega
          · simp only [if_true] at HMi
            go_wp2_with fail
            go_roundw
            case rel =>
              refine ⟨i + 1, some ⟨kc + f, ko⟩, (q : Int), ⟨kc + f, ko⟩, A3, c3, by omega, by go_num, ?_, ?_, HR3.out, .inr ⟨rfl, q0⟩, HMi.out, HGO.out, hlen, by show kc + f ≤ 200000000; omega⟩
              · exact ((HE8.out.setCell (p := ⟨w2.heap.size, 0, none⟩) (Nat.le_refl _) _).setCell (p := ⟨w2.heap.size, 1, none⟩) (Nat.le_refl _) _).setCell (p := ⟨w2.heap.size, 2, none⟩) (Nat.le_refl _) _
              · exact (((HB8.out.put 0 (.int .i64 (q : Int))).put 1 (.int .i64 (kc + f))).put 2 (.slice A3 ko.length c3)).eq (by simp)
            case measure => simp [intOf]; omega
    · obtain rfl : l.length = i := by omega
      have i1 : ¬ (↑l.length : Int) < ↑l.length := by omega
      rw [List.take_length] at hMin
      have HET := Lib.hid (HTB.out o (hMin.congr fun k => HEL.out k))
      have b0 := hB.cell 0; have b1 := hB.cell 1; have b2 := hB.cell 2; have bl := hB.lt
      simp only [List.getElem?_toArray, List.getElem?_cons_succ, List.getElem?_cons_zero] at b0 b1 b2
      rcases hob with ⟨rfl, rfl⟩ | ⟨rfl, hbq⟩
      · have HNO : Hid (∀ k : KeyL, ¬ Tot m x k.out false k.c) := Lib.hid fun k hk => by
          obtain ⟨k', h, -⟩ := HET.out.2 k hk; cases h
        clear hMin hB hrb hgb bel hww
        go_wp2_with fail
        refine bodyPost_ret (v := .tuple #[.slice none 0 0, .int .i64 0, .int .i64 12]) (by simp [results, Try.results14, go_sem]) rfl ⟨.inl ⟨rfl, HNO.out⟩, HWW.out⟩
      · have HSO : Hid (Tot m x kbo false kbc ∧ ∀ k' : KeyL, Tot m x k'.out false k'.c → ¬ klt k' ⟨kbc, kbo⟩) := Lib.hid ⟨HET.out.1 _ rfl, fun k' hk => by
          obtain ⟨k0, h, hn⟩ := HET.out.2 k' hk; cases h; exact hn⟩
        have bz : ¬ bq < 0 := by omega
        have bz2 : ¬ (1000000000 : Int) < kbc := by omega
        have CLN := Lib.hid (fun W (hb : Below wr.heap.size wr W) => clone_ints Ab kbo cb W (hrb.below (hww.trans (hb.mono hww.size)) rfl) (by omega))
        have KS : Hid (∀ W, Below wr.heap.size wr W → W.cell? ⟨w2.heap.size, 1, none⟩ = some (.int .i64 kbc) ∧ W.cell? ⟨w2.heap.size, 2, none⟩ = some (.slice Ab kbo.length cb) ∧ Below wr.heap.size wr W) := Lib.hid fun W hb => ⟨cell_keep hb (Nat.le_refl _) b1, cell_keep hb (Nat.le_refl _) b2, hb⟩
        clear hMin hB hrb hgb bel hww
        generalize hnk : kbo.length = nk at *
        have HNK := Lib.hid hnk
        clear hnk
        go_wp2_with fail
        go_region_held3 (fun W => W.cell? ⟨w2.heap.size, 1, none⟩ = some (.int .i64 kbc) ∧ W.cell? ⟨w2.heap.size, 2, none⟩ = some (.slice Ab nk cb) ∧ Below wr.heap.size wr W) (first | exact KS.out _ ((Below.refl _ _).drew) | (go_split_ands; exact KS.out _ (Below.step (a := wr) (by first | exact (Below.refl _ _).drew | assumption) b6)))
          (first | (go_at_call 28; go_split_ands; refine (CLN.out _ (by first | exact (Below.refl _ _).drew | assumption)).mono ?_; rintro e w6 ⟨v6, rfl, ho6, b6⟩; obtain ⟨A6, c6, rfl, -, -⟩ := own_form ho6))
        all_goals
          have BX : Below wr.heap.size wr w6 := by go_split_ands; assumption
          have bz9 := HWW.out.trans (BX.mono HWW.out.size)
          have hrd := Rd.of_own ho6
          go_wp2_with fail
          refine bodyPost_ret (v := .tuple #[.slice A6 nk c6, .int .i64 kbc, .int .i64 0]) (by simp [results, Try.results14, go_sem]) rfl ⟨.inr ⟨⟨kbc, kbo⟩, A6, c6, by simp only [HNK.out], by simp only [HNK.out]; exact hrd, HSO.out.1, HGB.out, ⟨by simp only [HNK.out]; omega, hcb⟩, HSO.out.2⟩, bz9⟩
end Go.Proofs.Ytikkmoleneioeaa
