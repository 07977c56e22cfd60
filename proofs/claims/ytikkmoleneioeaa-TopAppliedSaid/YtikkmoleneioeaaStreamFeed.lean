/- stream.Feed. -/
/- stream.End. -/
/- stream: what laws use. -/
import Derived.Test.YtikkmoleneioeaaStreamRun
import Derived.Test.YtikkmoleneioeaaCostMade
namespace Go.Proofs.Ytikkmoleneioeaa
open Go.RowKit

def FedZ (m : MachL) (WW : Int) (x : List Int) (Z : Nat → Prop) (w : World) (rv : Value) : Prop := ∃ L : TabK, RunAt w Z rv L m.states.length (x.length : Nat) ∧ StT m WW x L
abbrev FedO (m : MachL) (WW : Int) (x : List Int) (w : World) (rv : Value) : Prop := FedZ m WW x (fun _ => False) w rv
theorem CpW.app' {W W' : World} {g : Nat} {l : List (Nat × KeyL)} {rv : Value} {vs : List Value} (h : CpW W g l rv vs) {q : Nat} {kc : Int} {ko : List Int} {nk k : Nat} {A : Option Addr} {c g' cap : Nat} (hnk : ko.length = nk) (hk : l.length = k) (hr : Rd W A nk 1 (icells ko)) (hf : ko = [] ∨ ¬ (rv.ownBlock = some (blk A) ∨ blk A ≤ g))
    (ho : W'.ownsRow (g + 1) 71 3 (.slice (some ⟨g', 0, none⟩) (k + 1) cap) (k + 1) (mcells l vs ++ (#[.int .i64 (q : Int), .int .i64 kc, .slice A nk c] : Array Value).toList)) (hg : W.grownBy W' rv.ownBlock) (hv : rv.ownBlock = some g' ∨ W.heap.size < g') :
    CpW (W'.setCell ⟨g, 1, none⟩ (.slice (some ⟨g', 0, none⟩) (k + 1) cap)) g (l ++ [(q, ⟨kc, ko⟩)]) (.slice (some ⟨g', 0, none⟩) (k + 1) cap) (vs ++ [.slice A nk c]) := by
  subst hnk; subst hk
  exact h.app (x := (q, ⟨kc, ko⟩)) hr hf rfl rfl ho hg hv
theorem feed_app {w2 wo W W' : World} {l : List (Nat × KeyL)} {vs : List Value} {q : Nat} {kc fed : Int} {ko : List Int} {nk k : Nat} {A rA : Option Addr} {c rc g' cap : Nat} (HC : CpW W w2.heap.size l (.slice rA k rc) vs) (hnk : ko.length = nk) (hk : l.length = k) (hr : Rd W A nk 1 (icells ko)) (hf : ko = [] ∨ ¬ ((Value.slice rA k rc).ownBlock = some (blk A) ∨ blk A ≤ w2.heap.size))
    (HN : Blk W w2.heap.size #[.int .i64 fed, .slice rA k rc] 34) (HB : Below w2.heap.size w2 wo) (HB7 : Below wo.heap.size wo W)
    (ho : W'.ownsRow (w2.heap.size + 1) 71 3 (.slice (some ⟨g', 0, none⟩) (k + 1) cap) (k + 1) (mcells l vs ++ (#[.int .i64 (q : Int), .int .i64 kc, .slice A nk c] : Array Value).toList)) (hg : W.grownBy W' (Value.slice rA k rc).ownBlock) (hv : (Value.slice rA k rc).ownBlock = some g' ∨ W.heap.size < g') :
    CpW (W'.setCell ⟨w2.heap.size, 1, none⟩ (.slice (some ⟨g', 0, none⟩) (k + 1) cap)) w2.heap.size (l ++ [(q, ⟨kc, ko⟩)]) (.slice (some ⟨g', 0, none⟩) (k + 1) cap) (vs ++ [.slice A nk c]) ∧ Blk W' w2.heap.size #[.int .i64 fed, .slice rA k rc] 34 ∧ Below w2.heap.size w2 W' := by
  have hlt := fun x (e : (Value.slice rA k rc).ownBlock = some x) => (HC.own.lt x e).1
  exact ⟨HC.app' hnk hk hr hf ho hg hv, HN.grown hg (fun e => by have := hlt _ e.symm; omega), (HB.trans (HB7.mono HB.size)).grown hg (Nat.le_trans HB.size HB7.size) (fun x hx => by have := hlt x hx; omega)⟩
/-- marks that are good and not too long -/
def GN (N : TabK) : Prop := ∀ q k, N q = some k → GoodW k.out ∧ k.out.length ≤ 10000
theorem GN.put {N : TabK} (h : GN N) {p : Nat} {k : KeyL} (g : GoodW k.out) (hl : k.out.length ≤ 10000) : GN (putK N p k) := by
  unfold putK
  split
  · intro q k' hq
    by_cases e : q = p
    · subst e; rw [updK_at] at hq; cases hq; exact ⟨g, hl⟩
    · rw [updK_ne _ _ e] at hq; exact h q k' hq
  · exact h
theorem rdi_at {w : World} {A : Option Addr} {n : Nat} {xs : List Int} (h : Rd w A n 1 (icells xs)) : n = xs.length := rdi_len h
set_option maxRecDepth 100000 in
set_option maxHeartbeats 16000000 in
theorem Feed_any (v rv0 : Value) (m : MachL) (w : World) (WW : Int) (AA : Nat) (x ls : List Int) (Al : Option Addr) (nl cl : Nat) (hm : MachAt w v m) (hv : Valid m) (hs : SmallS m WW AA) (hr : FedO m WW x w rv0) (hl : Rd w Al nl 1 (icells ls)) (hg : GoodW ls) (hx : x.length + nl ≤ 12) :
    Calls Try.prog 12 #[v, rv0, .slice Al nl cl] w fun e w' => ∃ rv, e = .returned (.tuple #[rv, .int .i64 0]) ∧ FedZ m WW (x ++ ls) (fun g => g < w.heap.size) w' rv ∧ Below w.heap.size w w' := by
  obtain ⟨L, ⟨Ar, cr, rfl, hM⟩, hst⟩ := hr
  have hnl := rdi_len hl
  have hmay := hst.may hv hs (by omega)
  have CH := Lib.hid (fun W (hb : Below w.heap.size w W) => Check_ok v m W (hm.below hb) hv)
  have hml := marksL_len L m.states.length
  have hsz := hv.size
  have HV := Lib.hid hv; have HS := Lib.hid hs; have HST := Lib.hid hst; have HX := Lib.hid hx
  have HMM := Lib.hid hm
  generalize hl' : marksL L m.states.length = l at *
  have HML := Lib.hid hl'
  have HM := Lib.hid hM; have HL := Lib.hid hl; have HG := Lib.hid hg
  obtain ⟨A, c, rfl, hS⟩ := hm
  have MY := Lib.hid (fun W (hb : Below w.heap.size w W) => may_ok m.start A Ar m.states.length c cr l (x.length : Nat) W (hM.below hb) hmay (by omega) hsz (by omega))
  have HRW : Hid (∀ q (h : q < m.states.length), ∃ A' c', ∀ W, Below w.heap.size w W → W.cell? ⟨blk A, ofs A + q * 2 + 1, none⟩ = some (.slice A' (m.states[q].arcs.length : Nat) c') ∧ ArcsAt W A' m.states[q].arcs) := Lib.hid fun q h => by
    obtain ⟨A', c', h1, h2⟩ := hS.c1 q h
    exact ⟨A', c', fun W hb => ⟨cell_keep hb (Nat.le_refl _) h1, h2.below hb (Nat.le_refl _)⟩⟩
  have rdl := hl.rdy
  have HLC := Lib.hid (fun W (hb : Below w.heap.size w W) => rdi_cell (hl.below hb rfl))
  have f0 : ¬ ((12 : Int) - (x.length : Nat) < (nl : Int)) := by omega
  have f1 : wrap64 ((12 : Int) - (x.length : Nat)) = 12 - (x.length : Nat) := by unfold wrap64; omega
  have rdm := hS.rdy; have rdr := hM.rdy
  generalize hxl : x.length = xl at *
  have HXL := Lib.hid hxl
  have hx12 : xl ≤ 12 := by omega
  have hnl12 : nl ≤ 12 := by omega
  clear hv hs hst hS hl' hM hl hg hnl hx hxl
  have HMAY := Lib.hid hmay
  clear hmay
  go_enter Try.func12, Try.ntmps12
  go_wp2_with fail
  refine (CH.out _ (by repeat' (first | exact Below.refl _ _ | assumption | refine Below.drew ?_ | refine Below.alloc ?_ (by first | omega | (simp; done) | (simp; omega)) _ | refine Below.setCell ?_ (by first | omega | (simp; done) | (simp; omega)) _))).mono ?_; rintro e w1 ⟨rfl, bel⟩; obtain ⟨c1, f1⟩ := bcell bel; have z1 := bel.size; simp at z1; (try have y0 : w.heap.size < w1.heap.size := by omega); (try have y1 : w.heap.size + 1 < w1.heap.size := by omega); (try have y2 : w.heap.size + 1 + 1 < w1.heap.size := by omega); (try have y3 : w.heap.size + 1 + 1 + 1 < w1.heap.size := by omega); (try have y4 : w.heap.size + 1 + 1 + 1 + 1 < w1.heap.size := by omega); (try have y5 : w.heap.size + 1 + 1 + 1 + 1 + 1 < w1.heap.size := by omega); (try have y6 : w.heap.size + 1 + 1 + 1 + 1 + 1 + 1 < w1.heap.size := by omega)
  go_wp2_with fail
  refine (MY.out _ (by repeat' (first | exact Below.refl _ _ | assumption | refine Below.step ?_ bel | refine Below.drew ?_ | refine Below.alloc ?_ (by first | omega | (simp; done) | (simp; omega)) _ | refine Below.setCell ?_ (by first | omega | (simp; done) | (simp; omega)) _))).mono ?_; rintro e w2 ⟨rfl, b2⟩
  have bel2 := bel.trans (b2.mono bel.size)
  have B3 : Below w.heap.size w (((w.alloc (.cells #[.int .i64 m.start, .slice A m.states.length c] 28)).alloc (.cells #[.int .i64 (xl : Int), .slice Ar l.length cr] 34)).alloc (.cells #[.int .i64 0, .slice none 0 0] 34)) := (by repeat' (first | exact Below.refl _ _ | assumption | refine Below.drew ?_ | refine Below.alloc ?_ (by first | omega | (simp; done) | (simp; omega)) _ | refine Below.setCell ?_ (by first | omega | (simp; done) | (simp; omega)) _))
  have BW := Lib.hid (B3.trans (bel2.mono B3.size))
  have Q0 : Blk (((w.alloc (.cells #[.int .i64 m.start, .slice A m.states.length c] 28)).alloc (.cells #[.int .i64 (xl : Int), .slice Ar l.length cr] 34)).alloc (.cells #[.int .i64 0, .slice none 0 0] 34)) w.heap.size #[.int .i64 m.start, .slice A m.states.length c] 28 := ((Blk.new _ _ _).alloc _).alloc _
  have Q1 : Blk (((w.alloc (.cells #[.int .i64 m.start, .slice A m.states.length c] 28)).alloc (.cells #[.int .i64 (xl : Int), .slice Ar l.length cr] 34)).alloc (.cells #[.int .i64 0, .slice none 0 0] 34)) (w.heap.size + 1) #[.int .i64 (xl : Int), .slice Ar l.length cr] 34 := (Blk.new' (by simp)).alloc _
  have Q2 : Blk (((w.alloc (.cells #[.int .i64 m.start, .slice A m.states.length c] 28)).alloc (.cells #[.int .i64 (xl : Int), .slice Ar l.length cr] 34)).alloc (.cells #[.int .i64 0, .slice none 0 0] 34)) (w.heap.size + 1 + 1) #[.int .i64 0, .slice none 0 0] 34 := Blk.new' (by simp)
  have P0 := Q0.step bel2; have P1 := Q1.step bel2; have P2 := Q2.step bel2
  have HP0 := Lib.hid P0; have HP1 := Lib.hid P1; have HP2 := Lib.hid P2
  have u0 := P0.cell; have u1 := P1.cell; have l2 := P2.lt
  clear c1 f1 z1 y0 y1 y2 bel b2 bel2 B3 Q0 Q1 Q2 P0 P1 P2 CH MY
  go_wp2_with fail
  go_loop [43] (fun i => ∃ k : Nat, k ≤ nl ∧ i = .int .i64 k) (fun i => nl - (intOf i).toNat)
  case atStart => exact ⟨0, by omega, rfl⟩
  case round =>
    obtain ⟨k, hk, rfl⟩ := hrel
    by_cases hln : k < nl
    · have hlt : k < ls.length := by have := rdi_len HL.out; omega
      have hcell := HLC.out _ BW.out k hlt
      have hv := HG.out _ (List.getElem_mem hlt)
      have q1 : (0 : Int) ≤ ↑k := by omega
      have q2 : (↑k : Int) < ↑nl := by omega
      generalize ls[k] = a at *
      have q3 : ¬ a < 1 := by omega
      have q4 : ¬ 1000 < a := by omega
      go_wp2
      go_round
      case rel => exact ⟨k + 1, by omega, by go_num⟩
      case measure => simp [intOf]; omega
    · obtain rfl : nl = k := by omega
      have q2 : ¬ (↑nl : Int) < ↑nl := by omega
      have v1 := (HP1.out.alloc (.cells #[.int .i64 (xl : Int), .slice none 0 0] 34)).cell
      have N0 : Blk (w2.alloc (.cells #[.int .i64 (xl : Int), .slice none 0 0] 34)) w2.heap.size #[.int .i64 (xl : Int), .slice none 0 0] 34 := Blk.new _ _ _
      have C0 : CpW (w2.alloc (.cells #[.int .i64 (xl : Int), .slice none 0 0] 34)) w2.heap.size (l.take 0) (.slice none 0 0) [] := CpW.nil _ _
      have G0 : Below w2.heap.size w2 (w2.alloc (.cells #[.int .i64 (xl : Int), .slice none 0 0] 34)) := (Below.refl _ _).alloc (Nat.le_refl _) _
      have HN0 := Lib.hid N0; have HC0 := Lib.hid C0; have HG0 := Lib.hid G0
      have hwl := HP0.out.lt
      clear N0 C0 G0
      go_wp2_with fail
      clear v1 u1
      generalize w2.alloc (.cells #[.int .i64 (xl : Int), .slice none 0 0] 34) = w5 at *

      go_loopw [61] (fun iv W => ∃ (k : Nat) (rv : Value) (vs : List Value), k ≤ l.length ∧ iv = .int .i64 k ∧ Below w2.heap.size w2 W ∧ Blk W w2.heap.size #[.int .i64 (xl : Int), rv] 34 ∧ CpW W w2.heap.size (l.take k) rv vs) (fun iv _ => l.length - (intOf iv).toNat)
      case atStart => exact ⟨0, _, _, by omega, rfl, HG0.out, HN0.out, HC0.out⟩
      case round =>
        obtain ⟨k, rv, vs, hk, rfl, bel, hN, hC⟩ := hrel
        have i0 : (0 : Int) ≤ ↑k := by omega
        have HB := Lib.hid bel; have HN := Lib.hid hN; have HCp := Lib.hid hC
        by_cases hlt : k < l.length
        · have i1 : (↑k : Int) < ↑l.length := by omega
          have hMr := HM.out.below (BW.out.trans (bel.mono BW.out.size))
          have d0 := hMr.c0 k hlt; have d1 := hMr.c1 k hlt
          obtain ⟨A2, c2, d2, hr2, -⟩ := hMr.c2 k hlt
          have hok := HMAY.out.ok _ (List.getElem_mem hlt)
          have lA := World.block_lt_of_cell? _ _ d0
          have ln := hN.lt
          have htk : l.take (k + 1) = l.take k ++ [l[k]] := List.take_succ_eq_append_getElem hlt
          have HTK := Lib.hid htk
          have hltk : (l.take k).length = k := by rw [List.length_take]; omega
          have HLK := Lib.hid hltk
          generalize l[k] = y at *
          obtain ⟨q, kc, ko⟩ := y
          simp only at d0 d1 d2 hr2 hok
          have hlen := hok.2.2.2
          obtain ⟨wo, rfl⟩ : ∃ wo : World, wo = wr := ⟨_, rfl⟩
          have HXB := Lib.hid (Blk.new wo #[.int .i64 (q : Int), .int .i64 kc, .slice A2 ko.length c2] 71)
          have CLN := Lib.hid (clone_ints A2 ko c2 (wo.alloc (.cells #[.int .i64 (q : Int), .int .i64 kc, .slice A2 ko.length c2] 71)) (hr2.below ((Below.refl _ _).alloc (Nat.le_refl _) _) rfl) (by omega))
          have hco := hC.own
          rw [hltk] at hco
          obtain ⟨rA, rc, rfl, -, -⟩ := own_form hco
          clear hco hMr hr2 hok htk hltk hN hC bel
          go_wp2_with fail
          refine CLN.out.mono ?_; rintro e w6 ⟨v6, rfl, ho6, b6⟩
          obtain ⟨A6, c6, rfl, -, -⟩ := own_form ho6
          have X6 := HXB.out.step b6
          have b6' : Below wo.heap.size wo w6 := Below.step (a := wo) ((Below.refl _ _).alloc (Nat.le_refl _) _) b6
          have b7 : Below wo.heap.size wo (w6.setCell ⟨wo.heap.size, 2, none⟩ (.slice A6 ko.length c6)) := b6'.setCell (Nat.le_refl _) _
          have hrd6 := Rd.of_own ho6
          have hbo : ∀ g, Value.ownBlock (.slice A6 ko.length c6) = some g → wo.heap.size + 1 ≤ g := fun g e => by have := (ho6.lt g e).1; simpa using this
          have hr7 : Rd (w6.setCell ⟨wo.heap.size, 2, none⟩ (.slice A6 ko.length c6)) A6 ko.length 1 (icells ko) := by
            have h1 := own_setCell ho6 (a := ⟨wo.heap.size, 2, none⟩) (fun e => by have := hbo _ e; simp only at this; omega) (.slice A6 ko.length c6)
            exact Rd.of_own h1
          have hf7 := own_apart ho6 (X := fun g => Value.ownBlock (.slice rA k rc) = some g ∨ g ≤ w2.heap.size) (fun g e => by
            have h3 : wo.heap.size < (wo.alloc (.cells #[.int .i64 (q : Int), .int .i64 kc, .slice A2 ko.length c2] 71)).heap.size := by simp
            exact e.elim (fun e => by have := (HCp.out.own.lt g e).2; omega) (fun e => by omega))
          have HR7 := Lib.hid hr7; have HF7 := Lib.hid hf7; have HB7 := Lib.hid b7
          have HC7 := Lib.hid (HCp.out.keep b7); have HN7 := Lib.hid (HN.out.step b7)
          have HO7 := Lib.hid (HCp.out.keep b7).own
          rw [HLK.out] at HO7
          have x0 := X6.cell 0; have x1 := X6.cell 1; have x2 := X6.cell 2; have x3 := X6.froz; have x4 := X6.lt
          have n1 := (HN.out.step b6').cell 1; have n2 := (HN.out.step b6').froz; have n3 := (HN.out.step b6').lt
          have z7 : wo.heap.size ≤ w6.heap.size := b6'.size
          simp only [List.getElem?_toArray, List.getElem?_cons_succ, List.getElem?_cons_zero] at x0 x1 x2 n1
          have m1 : w2.heap.size ≠ wo.heap.size := by omega
          have hk60 : k + 1 ≤ 1000000 := by omega
          clear ho6 hrd6 hr7 hf7 b6 b6' b7 X6 hbo CLN
          generalize hnk : ko.length = nk at *
          have HNK := Lib.hid hnk
          clear hnk
          go_wp2_with (at_builtin; go_loud (refine wpList_app1 rfl _ _ rfl eltMark (w2.heap.size + 1) (.slice rA k rc) k _ rfl (w6.setCell ⟨wo.heap.size, 2, none⟩ (.slice A6 nk c6)) HO7.out #[.int .i64 (q : Int), .int .i64 kc, .slice A6 nk c6] rfl w6.heap.size (by simp) rfl rfl (by simp [Value.oneCell']) hk60 (by omega) (by simp; omega) ?_; intro g cap w8 ho8 hg8 hb8 hl8; have hfa := feed_app HC7.out HNK.out HLK.out HR7.out HF7.out HN7.out HB.out HB7.out ho8 hg8 hb8; clear ho8 hg8 hb8; obtain ⟨c8, N8, b8⟩ := hfa; have HC8 := Lib.hid c8; have HN8 := Lib.hid N8; have HB8 := Lib.hid b8; have s1 := N8.cell 1; have s2 := N8.froz; have s3 := N8.lt; clear c8 N8 b8))
          go_roundw
          case rel => exact ⟨k + 1, .slice (some ⟨g, 0, none⟩) (k + 1) cap, _, by omega, by go_num, HB8.out.setCell (Nat.le_refl _) _, (HN8.out.put 1 _).eq (by simp), by rw [HTK.out]; exact HC8.out⟩
          case measure => simp [intOf]; omega
        · obtain rfl : l.length = k := by omega
          have i1 : ¬ (↑l.length : Int) < ↑l.length := by omega
          have hco := hC.own
          rw [List.take_length] at hC hco
          obtain ⟨rA, rc, rfl, -, -⟩ := own_form hco
          have hMn := hC.marks.2
          have hfed : ∃ L', RunAt wr (fun g => g ≤ w2.heap.size) (.agg #[.int .i64 (xl : Int), .slice rA l.length rc]) L' m.states.length (xl : Int) ∧ StT m WW (x ++ ls.take 0) L' := by
            refine ⟨L, ⟨rA, rc, by rw [HML.out], by rw [HML.out]; exact hMn⟩, ?_⟩
            rw [List.take_zero, List.append_nil]; exact HST.out
          have HFE := Lib.hid hfed
          clear hfed hMn hC hco bel hN
          go_wp2_with fail
          go_loopw [78] (fun iv W => ∃ (j : Nat) (sv : Value), j ≤ nl ∧ iv = .int .i64 j ∧ Below w2.heap.size w2 W ∧ Blk W w2.heap.size #[.int .i64 ((xl : Int) + j), sv] 34 ∧ ∃ L', RunAt W (fun g => g ≤ w2.heap.size) (.agg #[.int .i64 ((xl : Int) + j), sv]) L' m.states.length ((xl : Int) + j) ∧ StT m WW (x ++ ls.take j) L') (fun iv _ => nl - (intOf iv).toNat)
          case atStart => exact ⟨0, _, by omega, rfl, HB.out, by simpa using HN.out, by simpa using HFE.out⟩
          case round =>
            obtain ⟨j, sv, hj, rfl, bel, hN, L2, hR, hT⟩ := hrel
            have HB3 := Lib.hid bel; have HN3 := Lib.hid hN; have HT3 := Lib.hid hT
            have i0 : (0 : Int) ≤ ↑j := by omega
            obtain ⟨A2, c2, hv2, hM2⟩ := hR
            have hsv : sv = .slice A2 (marksL L2 m.states.length).length c2 := by
              simp only [Value.agg.injEq, Array.mk.injEq, List.cons.injEq] at hv2
              exact hv2.2.1
            subst hsv
            have HR3 := Lib.hid hM2
            have hlj : (x ++ ls.take j).length ≤ 12 := by
              have h1 := HXL.out; have h2 := HX.out
              rw [List.length_append, List.length_take]; omega
            have hMY := hT.may HV.out HS.out hlj
            have hm60 := marksL_len L2 m.states.length
            have HMY := Lib.hid hMY
            have HLJ := Lib.hid hlj
            clear hN hT hM2 hMY hlj hv2
            generalize hl2 : marksL L2 m.states.length = l2 at *
            have HL2 := Lib.hid hl2
            clear hl2
            by_cases hlt : j < nl
            · have i1 : (↑j : Int) < ↑nl := by omega
              have hjl : j < ls.length := by have := rdi_len HL.out; omega
              have hlab := HLC.out _ (BW.out.trans (bel.mono BW.out.size)) j hjl
              have hgl := HG.out _ (List.getElem_mem hjl)
              have htk : ls.take (j + 1) = ls.take j ++ [ls[j]] := List.take_succ_eq_append_getElem hjl
              have HTK := Lib.hid htk
              have lls := World.block_lt_of_cell? _ _ hlab
              obtain ⟨wo, rfl⟩ : ∃ wo : World, wo = wr := ⟨_, rfl⟩
              generalize ls[j] = lab at *
              have HGL := Lib.hid hgl
              have hmm := run_makeMap (P := Try.prog) 68 wo
              have n1 := (HN3.out.alloc (.map #[] 0)).cell 1; have n3 := HN3.out.lt
              simp only [List.getElem?_toArray, List.getElem?_cons_succ, List.getElem?_cons_zero] at n1
              have T0 := Lib.hid (TabX.made wo (fun g => g < wo.heap.size))
              have hsz0 : wo.heap.size < (wo.alloc (.map #[] 0)).heap.size := by simp
              have B0 : Hid (Below wo.heap.size wo (wo.alloc (.map #[] 0))) := Lib.hid ((Below.refl _ _).alloc (Nat.le_refl _) _)
              clear htk bel hgl
              go_wp2_with fail
              go_loopw [86] (fun iv wx => ∃ (i : Nat) (N : TabK), i ≤ l2.length ∧ iv = .int .i64 i ∧ Below wo.heap.size wo wx ∧ wo.heap.size < wx.heap.size ∧ TabX wx wo.heap.size N (fun g => g < wo.heap.size) ∧ (∀ q, MinK (JL (prA m lab (l2.take i)) q) (N q)) ∧ GN N) (fun iv _ => l2.length - (intOf iv).toNat)
              case atStart => exact ⟨0, fun _ => none, by omega, rfl, B0.out, hsz0, T0.out, jl_nil, fun q k h => by simp at h⟩
              case round =>
                obtain ⟨i, N, hi, rfl, bel4, hs4, ht4, hN4, hgn⟩ := hrel
                have HT4 := Lib.hid ht4; have HN4 := Lib.hid hN4; have HGN := Lib.hid hgn; have HB4 := Lib.hid bel4
                have hw4 := BW.out.trans ((HB3.out.trans (bel4.mono HB3.out.size)).mono BW.out.size)
                have HW4 := Lib.hid hw4
                have j0 : (0 : Int) ≤ ↑i := by omega
                by_cases hit : i < l2.length
                · have j1 : (↑i : Int) < ↑l2.length := by omega
                  have hMr := HR3.out.below bel4
                  have d0 := hMr.c0 i hit; have d1 := hMr.c1 i hit
                  obtain ⟨A3, c3, d2', hr3, -⟩ := HR3.out.c2 i hit
                  have d2 := cell_keep bel4 (Nat.le_refl _) d2'
                  have rd2 := hMr.rdy
                  have hok := HMY.out.ok _ (List.getElem_mem hit)
                  have lA := World.block_lt_of_cell? _ _ d0
                  have HPR := Lib.hid (prA_snoc m lab l2 i hit)
                  generalize l2[i] = y at *
                  obtain ⟨q, kc, ko⟩ := y
                  simp only at d0 d1 d2 d2' hr3 hok HPR
                  obtain ⟨hqn, hgo, ⟨hc0, hc1⟩, hlen⟩ := hok
                  obtain ⟨A', c', hrow⟩ := HRW.out q hqn
                  have hr0 := (hrow _ hw4).1
                  have lB := World.block_lt_of_cell? _ _ hr0
                  have HROW := Lib.hid (fun W hb => (hrow W hb).2)
                  have hq : arcsQ m q = m.states[q].arcs := by unfold arcsQ; rw [List.getElem?_eq_getElem hqn]; rfl
                  rw [hq] at HPR
                  have HVA : Hid (∀ a ∈ m.states[q].arcs, ValidArc m.states.length a) := Lib.hid fun a ha => (arcsQ_ok HV.out (by rw [hq]; exact ha)).2
                  have hal : m.states[q].arcs.length ≤ 400 := Nat.le_trans (arcsOf_leS m.states q hqn) HV.out.arcs
                  have q0 : (0 : Int) ≤ (q : Int) := by omega
                  have q1 : (q : Int) < (m.states.length : Int) := by omega
                  obtain ⟨wq, rfl⟩ : ∃ wq : World, wq = wr := ⟨_, rfl⟩
                  have mb := (HP0.out.step ((HB3.out.trans (bel4.mono HB3.out.size)))).alloc (.cells #[.int .i64 (q : Int), .int .i64 kc, .slice A3 ko.length c3] 71)
                  have mb1 := mb.cell 1; have mbl := (HP0.out.step ((HB3.out.trans (bel4.mono HB3.out.size)))).lt
                  simp only [List.getElem?_toArray, List.getElem?_cons_succ, List.getElem?_cons_zero] at mb1
                  have XB := Lib.hid (Blk.new wq #[.int .i64 (q : Int), .int .i64 kc, .slice A3 ko.length c3] 71)
                  have B5 := Lib.hid (bel4.alloc bel4.size (.cells #[.int .i64 (q : Int), .int .i64 kc, .slice A3 ko.length c3] 71))
                  have T5 := Lib.hid (ht4.below ((Below.refl wq.heap.size wq).alloc (Nat.le_refl _) (.cells #[.int .i64 (q : Int), .int .i64 kc, .slice A3 ko.length c3] 71)))
                  have HRO := Lib.hid (fun W (hb : Below wo.heap.size wo W) => hr3.below hb rfl)
                  have lq : wq.heap.size < (wq.alloc (.cells #[.int .i64 (q : Int), .int .i64 kc, .slice A3 ko.length c3] 71)).heap.size := by simp
                  have r0 := (hrow _ (hw4.alloc hw4.size (.cells #[.int .i64 (q : Int), .int .i64 kc, .slice A3 ko.length c3] 71))).1
                  have hp0 : prA m lab (l2.take i) ++ prT lab ⟨kc, ko⟩ (m.states[q].arcs.take 0) = prA m lab (l2.take i) := by simp [prT]
                  have HP00 := Lib.hid hp0
                  have BQ := Lib.hid ((Below.refl wq.heap.size wq).alloc (Nat.le_refl _) (.cells #[.int .i64 (q : Int), .int .i64 kc, .slice A3 ko.length c3] 71))
                  have HGO := Lib.hid hgo
                  clear d2' ht4 hN4 hgn bel4 hw4 hMr hr3 hrow hr0 mb hp0 hgo hq
                  generalize m.states[q].arcs = arcs at *
                  go_wp2_with fail
                  go_loopw [98] (fun iv wy => ∃ (t : Nat) (N' : TabK), t ≤ arcs.length ∧ iv = .int .i64 t ∧ Below wo.heap.size wo wy ∧ wq.heap.size < wy.heap.size ∧ (∀ k, k < wq.heap.size → k ≠ wo.heap.size → wy.heap[k]? = wq.heap[k]?) ∧ Blk wy wq.heap.size #[.int .i64 (q : Int), .int .i64 kc, .slice A3 ko.length c3] 71 ∧ TabX wy wo.heap.size N' (fun g => g < wo.heap.size) ∧ (∀ q, MinK (JL (prA m lab (l2.take i) ++ prT lab ⟨kc, ko⟩ (arcs.take t)) q) (N' q)) ∧ GN N') (fun iv _ => arcs.length - (intOf iv).toNat)
                  case atStart => exact ⟨0, N, by omega, rfl, B5.out, lq, fun k hk _ => BQ.out.block k hk, XB.out, T5.out, by rw [HP00.out]; exact HN4.out, HGN.out⟩
                  case round =>
                    obtain ⟨t, N', ht, rfl, bel5, hs5, hk5, hX5, ht5, hN5, hg5⟩ := hrel
                    have k0 : (0 : Int) ≤ ↑t := by omega
                    have HB5 := Lib.hid bel5; have HK5 := Lib.hid hk5; have HX5 := Lib.hid hX5; have HT5 := Lib.hid ht5; have HN5 := Lib.hid hN5; have HG5 := Lib.hid hg5
                    by_cases htt : t < arcs.length
                    · have k1 : (↑t : Int) < ↑arcs.length := by omega
                      have hw5 := BW.out.trans ((HB3.out.trans (bel5.mono HB3.out.size)).mono BW.out.size)
                      have hAr := HROW.out _ hw5
                      have e0 := hAr.c0 t htt; have e1 := hAr.c1 t htt; have e2 := hAr.c2 t htt; have e3 := hAr.c3 t htt
                      have rd5 := hAr.rdy
                      have lR := World.block_lt_of_cell? _ _ e0
                      have hva := HVA.out _ (List.getElem_mem htt)
                      have HSN := Lib.hid (prT_snoc lab ⟨kc, ko⟩ arcs t htt)
                      generalize arcs[t] = a at *
                      obtain ⟨ai, ao, aw, at'⟩ := a
                      obtain ⟨-, -, o0, o1, w0', w1', t0', t1'⟩ := hva
                      simp only at o0 o1 w0' w1' t0' t1' e0 e1 e2 e3 HSN
                      obtain ⟨p, rfl⟩ : ∃ p : Nat, at' = (p : Int) := ⟨at'.toNat, by omega⟩
                      obtain ⟨wy, rfl⟩ : ∃ wy : World, wy = wr := ⟨_, rfl⟩
                      have BY := Lib.hid ((Below.refl wy.heap.size wy).alloc (Nat.le_refl _) (.cells #[.int .i64 ai, .int .i64 ao, .int .i64 aw, .int .i64 (p : Int)] 65))
                      have XY := Lib.hid (HX5.out.step BY.out)
                      have B6 := Lib.hid (bel5.alloc bel5.size (.cells #[.int .i64 ai, .int .i64 ao, .int .i64 aw, .int .i64 (p : Int)] 65))
                      clear bel5 hk5 ht5 hN5 hg5 hX5 hw5 hAr
                      by_cases hz : ai = lab
                      · have hb : (ai == lab) = true := by simp [hz]
                        rw [hb] at HSN
                        simp only [if_true] at HSN
                        have AL := Lib.hid (along_any (q : Int) ⟨kc, ko⟩ A3 c3 ⟨ai, ao, aw, (p : Int)⟩ _ (HRO.out _ B6.out) (by simp only; omega) hc0 (by simp only; omega) w0' w1')
                        have HEG := Lib.hid (ext_good (k := ⟨kc, ko⟩) (a := ⟨ai, ao, aw, (p : Int)⟩) HGO.out o0 o1)
                        have HKE : Hid ((extK ⟨kc, ko⟩ ⟨ai, ao, aw, (p : Int)⟩).out.length ≤ 10000) := Lib.hid (by
                          unfold extK pre; simp only [List.length_append]; split <;> simp <;> omega)
                        have HJ5 := Lib.hid (fun q' => jl_snoc HN5.out ⟨kc, ko⟩ ⟨ai, ao, aw, (p : Int)⟩ q')
                        simp only [Int.toNat_natCast] at HJ5
                        simp only [markV, arcVal] at AL
                        generalize extK ⟨kc, ko⟩ ⟨ai, ao, aw, (p : Int)⟩ = ke at *
                        have x0 := XY.out.cell; have xl0 := XY.out.lt
                        clear hz
                        go_wp2_with fail
                        refine AL.out.mono ?_; rintro e w6 ⟨A6, c6, rfl, ho6, b6⟩
                        have hX6 := own_apart ho6 (X := fun g => g < wo.heap.size) (fun g e => by have := BY.out.size; omega)
                        have BT := Lib.hid (better_any w6 wo.heap.size N' _ p ke A6 c6 ((HT5.out.below BY.out).below b6) (Rd.of_own ho6) hX6 HEG.out (by have := HKE.out; omega) (fun k0 hk0 => ⟨(HG5.out p k0 hk0).1, by have := (HG5.out p k0 hk0).2; omega⟩))
                        have b66 := B6.out.trans (b6.mono B6.out.size)
                        have hsz6 := b6.size; have hszy := BY.out.size
                        have HX6 := Lib.hid (XY.out.step b6)
                        have HK6 : Hid (∀ k, k < wq.heap.size → k ≠ wo.heap.size → w6.heap[k]? = wq.heap[k]?) := Lib.hid fun k hk hne => ((b6.block k (by omega)).trans (BY.out.block k (by omega))).trans (HK5.out k hk hne)
                        have HB6 := Lib.hid b66
                        simp only [markV] at BT
                        clear ho6 hX6 b6 b66 AL x0
                        go_wp2_with fail
                        refine BT.out.mono ?_; rintro e w7 ⟨rfl, ht7, hg7⟩
                        have HT7 := Lib.hid ht7; have HG7 := Lib.hid hg7
                        clear ht7 hg7 BT
                        go_wp2_with fail
                        go_roundw
                        case rel => exact ⟨t + 1, putK N' p ke, by omega, by go_num, below_map HB6.out HG7.out HB6.out.size (Nat.le_refl _), by have := HG7.out.size; omega, fun k hk hne => (HG7.out.block k (by omega) (by simpa using hne)).trans (HK6.out k hk hne), HX6.out.grown HG7.out (fun e => by have e2 : wq.heap.size = wo.heap.size := Option.some.inj e; omega), HT7.out, by rw [HSN.out, ← List.append_assoc]; exact HJ5.out, HG5.out.put HEG.out HKE.out⟩
                        case measure => simp [intOf]; omega
                      · have hb : (ai == lab) = false := by simp [hz]
                        rw [hb] at HSN
                        simp only [Bool.false_eq_true, if_false, List.append_nil] at HSN
                        clear hz
                        go_wp2_with fail
                        go_roundw
                        case rel => exact ⟨t + 1, N', by omega, by go_num, B6.out, by have := BY.out.size; omega, fun k hk hne => (BY.out.block k (by omega)).trans (HK5.out k hk hne), XY.out, HT5.out.below BY.out, by rw [HSN.out]; exact HN5.out, HG5.out⟩
                        case measure => simp [intOf]; omega
                    · obtain rfl : arcs.length = t := by omega
                      have k1 : ¬ (↑arcs.length : Int) < ↑arcs.length := by omega
                      have hNf : ∀ q', MinK (JL (prA m lab (l2.take (i + 1))) q') (N' q') := by
                        rw [HPR.out]
                        have := HN5.out
                        rwa [List.take_length] at this
                      have HNF := Lib.hid hNf
                      clear bel5 hk5 ht5 hN5 hg5 hX5 hNf
                      go_wp2_with fail
                      go_roundw
                      case rel => exact ⟨i + 1, N', by omega, by go_num, HB5.out, by omega, HT5.out, HNF.out, HG5.out⟩
                      case measure => simp [intOf]; omega
                · obtain rfl : l2.length = i := by omega
                  have j1 : ¬ (↑l2.length : Int) < ↑l2.length := by omega
                  rw [List.take_length] at hN4
                  have hNm : ∀ q, MinK (JL (prA m lab (marksL L2 m.states.length)) q) (N q) := by rw [HL2.out]; exact hN4
                  have hbs : boundS m.states.length (x ++ ls.take j).length + 1 + m.states.length ≤ 792 := by
                    rw [← bound_succ]
                    refine bound_le hsz ?_
                    have h1 := HXL.out; have h2 := HX.out
                    rw [List.length_append, List.length_take]; omega
                  have RN := Lib.hid (run_any wr (fun g => g < wo.heap.size) (fun g e => Nat.lt_of_lt_of_le e bel4.size) wo.heap.size N _ m (boundS m.states.length (x ++ ls.take j).length + 1) WW AA ((xl : Int) + j + 1) ht4 (HMM.out.below hw4) HV.out HS.out.arcs HS.out.wts HS.out.w0 (feed_in HV.out HS.out HT3.out hNm) (by omega) (bound_w hbs HS.out.w0 HS.out.w1) HS.out.size)
                  have HFS := Lib.hid (fun L' (hI : StInv m N ⟨L', []⟩ 0 []) => feed_st HV.out HS.out (show lab ≠ 0 by have := HGL.out; omega) HT3.out hNm hI)
                  have mb := HP0.out.step ((HB3.out.trans (bel4.mono HB3.out.size)))
                  have g0 := mb.cell; have gl := mb.lt
                  have nb := HN3.out.step bel4
                  have h0 := nb.cell 0; have h1 := nb.froz; have h2 := nb.lt; have h3 := nb.cell 1
                  simp only [List.getElem?_toArray, List.getElem?_cons_succ, List.getElem?_cons_zero] at h0 h3
                  have hwr : wrap64 ((xl : Int) + j + 1) = (xl : Int) + j + 1 := by have := HX.out; unfold wrap64; omega
                  have HNB := Lib.hid nb
                  clear ht4 hN4 hgn bel4 hw4 hNm hbs mb nb
                  clear hmm n1 hsz0 hlab n3 rdl rdr rdm f0 lls hjl
                  generalize hf : (xl : Int) + j = f at *
                  have HF := Lib.hid hf
                  clear hf
                  go_wp2_with fail
                  refine RN.out.mono ?_; rintro e w8 ⟨rv, rfl, ⟨L3, ⟨A8, c8, rfl, hM8⟩, hI8⟩, hg8⟩
                  have bel8 := below_map HB4.out hg8 HB4.out.size (Nat.le_refl _)
                  have hst8 := HFS.out L3 hI8
                  have HST8 : Hid (StT m WW (x ++ ls.take (j + 1)) L3) := Lib.hid (by rw [HTK.out, ← List.append_assoc]; exact hst8)
                  have HB8 := Lib.hid (HB3.out.trans (bel8.mono HB3.out.size))
                  have hz8 := bel8.size
                  have nb := HN3.out.step bel8
                  have h4 := nb.cell 0; have h4' := nb.cell 1; have h5 := nb.froz; have h6 := nb.lt
                  simp only [List.getElem?_toArray, List.getElem?_cons_succ, List.getElem?_cons_zero] at h4 h4'
                  have HM8 := Lib.hid hM8
                  have HNB8 := Lib.hid nb
                  have hw2o : w2.heap.size < wo.heap.size := HN3.out.lt
                  clear hM8 hI8 hst8 nb bel8 hg8 h0 h1 h2 h3 g0 gl RN HFS
                  generalize hml3 : (marksL L3 m.states.length).length = nl3 at *
                  have HML3 := Lib.hid hml3
                  clear hml3
                  go_wp2_with fail
                  go_roundw
                  case rel =>
                    refine ⟨j + 1, .slice A8 nl3 c8, by omega, by go_num, ?_, ?_, L3, ?_, HST8.out⟩
                    · exact ((HB8.out.setCell (p := ⟨w2.heap.size, 0, none⟩) (Nat.le_refl _) _).setCell (p := ⟨w2.heap.size, 1, none⟩) (Nat.le_refl _) _).alloc (by simpa using HB8.out.size) _
                    · have e1 : (xl : Int) + ((j + 1 : Nat) : Int) = f + 1 := by have := HF.out; omega
                      rw [e1]
                      exact (((HNB8.out.put 0 (.int .i64 (f + 1))).put 1 (.slice A8 nl3 c8)).eq (by simp)).alloc _
                    · have e1 : (xl : Int) + ((j + 1 : Nat) : Int) = f + 1 := by have := HF.out; omega
                      rw [e1]
                      refine ⟨A8, c8, by rw [HML3.out], ?_⟩
                      exact (((HM8.out.set (a := ⟨w2.heap.size, 0, none⟩) (show w2.heap.size < wo.heap.size from hw2o) _).set (a := ⟨w2.heap.size, 1, none⟩) (show w2.heap.size < wo.heap.size from hw2o) _).other fun g e => Nat.lt_of_le_of_lt e hw2o).below ((Below.refl _ _).alloc (Nat.le_refl _) _)
                  case measure => simp [intOf]; omega
            · obtain rfl : nl = j := by omega
              have i1 : ¬ (↑nl : Int) < ↑nl := by omega
              have htl : ls.take nl = ls := List.take_of_length_le (by have := rdi_len HL.out; omega)
              have hlen : ((xl : Int) + (nl : Int)) = ((x ++ ls).length : Nat) := by have h1 := rdi_len HL.out; have h2 := HXL.out; rw [List.length_append]; omega
              have c0 := HN3.out.cell 0; have c1' := HN3.out.cell 1; have c3 := HN3.out.lt
              have rb := HP2.out.step bel
              have r0 := rb.cell; have r1 := rb.froz; have r2 := rb.lt
              simp only [List.getElem?_toArray, List.getElem?_cons_succ, List.getElem?_cons_zero] at c0 c1'
              have HTL := Lib.hid htl; have HLEN := Lib.hid hlen
              have HBE := Lib.hid (BW.out.trans (bel.mono BW.out.size))
              have HFI : Hid (∀ u u', FedZ m WW (x ++ ls) (fun g => g < w.heap.size) ((wr.setCell ⟨w.heap.size + 1 + 1, 0, none⟩ u).setCell ⟨w.heap.size + 1 + 1, 1, none⟩ u') (.agg #[.int .i64 ((xl : Int) + nl), .slice A2 l2.length c2])) := Lib.hid fun u u' => by
                have hle : w.heap.size + 1 + 1 ≤ w2.heap.size := by omega
                refine ⟨L2, ⟨A2, c2, by rw [← HLEN.out, HL2.out], ?_⟩, ?_⟩
                · rw [HL2.out]
                  exact ((HR3.out.set (a := ⟨w.heap.size + 1 + 1, 0, none⟩) hle u).set (a := ⟨w.heap.size + 1 + 1, 1, none⟩) hle u').other fun g (e : g < w.heap.size) => show g ≤ w2.heap.size by omega
                · have := HT3.out
                  rwa [HTL.out] at this
              have HBF : Hid (∀ u u', Below w.heap.size w ((wr.setCell ⟨w.heap.size + 1 + 1, 0, none⟩ u).setCell ⟨w.heap.size + 1 + 1, 1, none⟩ u')) := Lib.hid fun u u' => (HBE.out.setCell (p := ⟨w.heap.size + 1 + 1, 0, none⟩) (by show w.heap.size ≤ w.heap.size + 1 + 1; omega) u).setCell (p := ⟨w.heap.size + 1 + 1, 1, none⟩) (by show w.heap.size ≤ w.heap.size + 1 + 1; omega) u'
              clear htl hlen rb bel
              go_wp2_with fail
              refine bodyPost_ret (v := .tuple #[.agg #[.int .i64 ((xl : Int) + nl), .slice A2 l2.length c2], .int .i64 0]) (by simp [results, Try.results12, go_sem, *]) rfl ⟨_, rfl, HFI.out _ _, HBF.out _ _⟩
end Go.Proofs.Ytikkmoleneioeaa

namespace Go.Proofs.Ytikkmoleneioeaa
open Go.RowKit

theorem goodW_nil : GoodW [] := fun a ha => by cases ha
/-- what may come out of the first marks -/
def EndL (m : MachL) (l : List (Nat × KeyL)) (k : KeyL) : Prop := ∃ x ∈ l, finQ m x.1 ≠ INF ∧ k = ⟨x.2.c + finQ m x.1, x.2.out⟩
theorem endL_all {m : MachL} {L : TabK} (hq : ∀ q k, L q = some k → q < m.states.length) (k : KeyL) : EndL m (marksL L m.states.length) k ↔ EndK m L k := by
  unfold EndL EndK marksL
  constructor
  · rintro ⟨x, hx, h1, h2⟩
    obtain ⟨p, hp, rfl⟩ := List.mem_map.1 hx
    have hs : (L p).isSome = true := by unfold hasL at hp; exact (List.mem_filter.1 hp).2
    obtain ⟨k0, hk0⟩ := Option.isSome_iff_exists.1 hs
    have hg : getK L p = k0 := by unfold getK; rw [hk0]; rfl
    simp only [hg] at h2
    exact ⟨p, k0, hk0, h1, h2⟩
  · rintro ⟨p, k0, hk0, h1, h2⟩
    have hg : getK L p = k0 := by unfold getK; rw [hk0]; rfl
    refine ⟨(p, k0), List.mem_map.2 ⟨p, ?_, by rw [hg]⟩, h1, h2⟩
    unfold hasL
    exact List.mem_filter.2 ⟨List.mem_range.2 (hq p k0 hk0), by rw [hk0]; rfl⟩
def betO (o : Option KeyL) (k : KeyL) : Bool := match o with | none => true | some k0 => decide (klt k k0)
def minO (o : Option KeyL) (k : KeyL) : Option KeyL := if betO o k = true then some k else o
theorem minO_ok {T : KeyL → Prop} {o : Option KeyL} (h : MinK T o) (k : KeyL) : MinK (fun k' => T k' ∨ k' = k) (minO o k) := by
  unfold minO betO
  cases o with
  | none =>
    simp only [if_true]
    refine ⟨fun k' hk => .inr (Option.some.inj hk).symm, fun k' hk => ⟨k, rfl, ?_⟩⟩
    rcases hk with hk | rfl
    · obtain ⟨x, hx, -⟩ := h.2 k' hk; cases hx
    · exact klt.irrefl _
  | some k0 =>
    by_cases hlt : klt k k0
    · simp only [hlt, decide_true, if_true]
      refine ⟨fun k' hk => .inr (Option.some.inj hk).symm, fun k' hk => ⟨k, rfl, ?_⟩⟩
      rcases hk with hk | rfl
      · obtain ⟨x, hx, hn⟩ := h.2 k' hk
        obtain rfl := Option.some.inj hx
        exact nklt_trans hlt.nle hn
      · exact klt.irrefl _
    · simp only [hlt, decide_false, Bool.false_eq_true, if_false]
      refine ⟨fun k' hk => .inl (h.1 k' hk), fun k' hk => ?_⟩
      rcases hk with hk | rfl
      · exact h.2 k' hk
      · exact ⟨k0, rfl, hlt⟩
theorem endL_snoc {m : MachL} {l : List (Nat × KeyL)} {i : Nat} (h : i < l.length) (k : KeyL) : EndL m (l.take (i + 1)) k ↔ (EndL m (l.take i) k ∨ (finQ m l[i].1 ≠ INF ∧ k = ⟨l[i].2.c + finQ m l[i].1, l[i].2.out⟩)) := by
  unfold EndL
  rw [List.take_succ_eq_append_getElem h]
  constructor
  · rintro ⟨x, hx, h1⟩
    rcases List.mem_append.1 hx with hx | hx
    · exact .inl ⟨x, hx, h1⟩
    · rw [List.mem_singleton.1 hx] at h1; exact .inr h1
  · rintro (⟨x, hx, h1⟩ | h1)
    · exact ⟨x, List.mem_append_left _ hx, h1⟩
    · exact ⟨l[i], List.mem_append_right _ (List.mem_singleton.2 rfl), h1⟩
/-- what End answers -/
def EndA (m : MachL) (x : List Int) (w : World) (e : Ending) : Prop :=
  (e = .returned (.tuple #[.slice none 0 0, .int .i64 0, .int .i64 12]) ∧ ∀ k : KeyL, ¬ Tot m x k.out false k.c) ∨
  ∃ (k : KeyL) (A : Option Addr) (c : Nat), e = .returned (.tuple #[.slice A k.out.length c, .int .i64 k.c, .int .i64 0]) ∧ Rd w A k.out.length 1 (icells k.out) ∧ Tot m x k.out false k.c ∧ GoodW k.out ∧ (k.out.length ≤ 800 ∧ k.c ≤ 200000000) ∧ ∀ k' : KeyL, Tot m x k'.out false k'.c → ¬ klt k' k
set_option maxRecDepth 100000 in
set_option maxHeartbeats 8000000 in
theorem End_any (v rv0 : Value) (m : MachL) (w : World) (WW F : Int) (AA : Nat) (x : List Int) (L : TabK) (hm : MachAt w v m) (hv : Valid m) (hs : SmallS m WW AA) (hr : RunAt w (fun _ => False) rv0 L m.states.length (x.length : Nat)) (hst : StT m WW x L) (hx : x.length ≤ 12) (hW : WW ≤ 100000) (hF : ∀ q, finQ m q ≠ INF → finQ m q ≤ F) (hF1 : F ≤ 100000000) :
    Calls Try.prog 14 #[v, rv0] w fun e w' => EndA m x w' e ∧ Below w.heap.size w w' := by
  obtain ⟨Ar, cr, rfl, hM⟩ := hr
  have hmay := hst.may hv hs hx
  have CH := Lib.hid (fun W (hb : Below w.heap.size w W) => Check_ok v m W (hm.below hb) hv)
  have hml := marksL_len L m.states.length
  have hsz := hv.size
  have hbk : ∀ y ∈ marksL L m.states.length, y.2.c ≤ 100000000 := fun y hy => by
    unfold marksL at hy
    obtain ⟨p, hp, rfl⟩ := List.mem_map.1 hy
    have hs' : (L p).isSome = true := by unfold hasL at hp; exact (List.mem_filter.1 hp).2
    obtain ⟨k0, hk0⟩ := Option.isSome_iff_exists.1 hs'
    have hg : getK L p = k0 := by unfold getK; rw [hk0]; rfl
    simp only [hg]
    have h1 := (hst.kb p k0 hk0).2
    have h2 := bound_le hsz hx
    have h3 : ((boundS m.states.length x.length : Nat) : Int) * WW ≤ 792 * WW := Int.mul_le_mul_of_nonneg_right (by omega) hs.w0
    omega
  have HEL := Lib.hid (fun k => endL_all (m := m) (L := L) (fun q k hk => (hst.tab.good hv hk).1) k)
  have HTB := Lib.hid (fun (o : Option KeyL) (h : MinK (EndK m L) o) => end_tot hst.tab h)
  generalize marksL L m.states.length = l at *
  have HM := Lib.hid hM; have HMAY := Lib.hid hmay; have HBK := Lib.hid hbk
  obtain ⟨A, c, rfl, hS⟩ := hm
  have HS := Lib.hid hS
  have HFQ : Hid (∀ q (h : q < m.states.length), finQ m q = m.states[q].final) := Lib.hid fun q h => by unfold finQ; rw [List.getElem?_eq_getElem h]; rfl
  have HF := Lib.hid hF
  have HFN := Lib.hid (fun q (h : finQ m q ≠ INF) => (finQ_ok hv h).1)
  have HVF : Hid (∀ q (h : q < m.states.length), ValidFinal m.states[q].final) := Lib.hid fun q h => (hv.st _ (List.getElem_mem h)).1
  have MY := Lib.hid (fun W (hb : Below w.heap.size w W) => may_ok m.start A Ar m.states.length c cr l (x.length : Nat) W (hM.below hb) hmay (by omega) hsz (by omega))
  have rdm := hS.rdy; have rdr := hM.rdy
  generalize hxl : x.length = xl at *
  clear hv hs hst hS hM hmay hxl hF hbk
  go_enter Try.func14, Try.ntmps14
  go_wp2_with fail
  refine (CH.out _ (by repeat' (first | exact Below.refl _ _ | assumption | refine Below.drew ?_ | refine Below.alloc ?_ (by first | omega | (simp; done) | (simp; omega)) _ | refine Below.setCell ?_ (by first | omega | (simp; done) | (simp; omega)) _))).mono ?_; rintro e w1 ⟨rfl, bel⟩; obtain ⟨c1, f1⟩ := bcell bel; have z1 := bel.size; simp at z1; (try have y0 : w.heap.size < w1.heap.size := by omega); (try have y1 : w.heap.size + 1 < w1.heap.size := by omega); (try have y2 : w.heap.size + 1 + 1 < w1.heap.size := by omega); (try have y3 : w.heap.size + 1 + 1 + 1 < w1.heap.size := by omega); (try have y4 : w.heap.size + 1 + 1 + 1 + 1 < w1.heap.size := by omega); (try have y5 : w.heap.size + 1 + 1 + 1 + 1 + 1 < w1.heap.size := by omega); (try have y6 : w.heap.size + 1 + 1 + 1 + 1 + 1 + 1 < w1.heap.size := by omega)
  go_wp2_with fail
  refine (MY.out _ (by repeat' (first | exact Below.refl _ _ | assumption | refine Below.step ?_ bel | refine Below.drew ?_ | refine Below.alloc ?_ (by first | omega | (simp; done) | (simp; omega)) _ | refine Below.setCell ?_ (by first | omega | (simp; done) | (simp; omega)) _))).mono ?_; rintro e w2 ⟨rfl, b2⟩
  have bel2 := bel.trans (b2.mono bel.size)
  have B3 : Below w.heap.size w ((w.alloc (.cells #[.int .i64 m.start, .slice A m.states.length c] 28)).alloc (.cells #[.int .i64 (xl : Int), .slice Ar l.length cr] 34)) := (by repeat' (first | exact Below.refl _ _ | assumption | refine Below.drew ?_ | refine Below.alloc ?_ (by first | omega | (simp; done) | (simp; omega)) _ | refine Below.setCell ?_ (by first | omega | (simp; done) | (simp; omega)) _))
  have bw := B3.trans (bel2.mono B3.size)
  have Q0 : Blk ((w.alloc (.cells #[.int .i64 m.start, .slice A m.states.length c] 28)).alloc (.cells #[.int .i64 (xl : Int), .slice Ar l.length cr] 34)) w.heap.size #[.int .i64 m.start, .slice A m.states.length c] 28 := (Blk.new _ _ _).alloc _
  have Q1 : Blk ((w.alloc (.cells #[.int .i64 m.start, .slice A m.states.length c] 28)).alloc (.cells #[.int .i64 (xl : Int), .slice Ar l.length cr] 34)) (w.heap.size + 1) #[.int .i64 (xl : Int), .slice Ar l.length cr] 34 := Blk.new' (by simp)
  have P0 := Lib.hid (Q0.step bel2)
  have P1 := (Q1.step bel2).alloc (.cells #[.int .i64 (-1), .int .i64 0, .slice none 0 0] 71)
  have u1 := P1.cell 1; have ul := (Q1.step bel2).lt
  simp only [List.getElem?_toArray, List.getElem?_cons_succ, List.getElem?_cons_zero] at u1
  have BW := Lib.hid bw
  have hwl := (Q0.step bel2).lt
  have HG0 : Hid (Below w2.heap.size w2 (w2.alloc (.cells #[.int .i64 (-1), .int .i64 0, .slice none 0 0] 71))) := Lib.hid ((Below.refl _ _).alloc (Nat.le_refl _) _)
  have HBB := Lib.hid (Blk.new w2 #[.int .i64 (-1), .int .i64 0, .slice none 0 0] 71)
  clear c1 f1 z1 y0 y1 bel b2 bel2 B3 bw Q0 Q1 P1 CH MY
  go_wp2_with fail
  clear u1
  generalize w2.alloc (.cells #[.int .i64 (-1), .int .i64 0, .slice none 0 0] 71) = w5 at *
  go_loopw [25] (fun iv W => ∃ (i : Nat) (o : Option KeyL) (bq : Int) (kb : KeyL) (Ab : Option Addr) (cb : Nat), i ≤ l.length ∧ iv = .int .i64 i ∧ Below w2.heap.size w2 W ∧ Blk W w2.heap.size #[.int .i64 bq, .int .i64 kb.c, .slice Ab kb.out.length cb] 71 ∧ Rd w Ab kb.out.length 1 (icells kb.out) ∧ ((o = none ∧ bq = -1) ∨ (o = some kb ∧ 0 ≤ bq)) ∧ MinK (EndL m (l.take i)) o ∧ GoodW kb.out ∧ kb.out.length ≤ 800 ∧ kb.c ≤ 200000000) (fun iv _ => l.length - (intOf iv).toNat)
  case atStart => exact ⟨0, none, -1, ⟨0, []⟩, none, 0, by omega, rfl, HG0.out, HBB.out, Rd.nil _ _ _, .inl ⟨rfl, rfl⟩, ⟨fun k hk => by simp at hk, fun k hk => by obtain ⟨y, hy, -⟩ := hk; simp at hy⟩, goodW_nil, Nat.zero_le _, by show (0 : Int) ≤ 200000000; omega⟩
  case round =>
    obtain ⟨i, o, bq, ⟨kbc, kbo⟩, Ab, cb, hi, rfl, bel, hB, hrb, hob, hMin, hgb, hlb, hcb⟩ := hrel
    simp only at hB hrb hgb hlb hcb
    have i0 : (0 : Int) ≤ ↑i := by omega
    have HBEL := Lib.hid bel; have HB := Lib.hid hB; have HRB := Lib.hid hrb; have HMin := Lib.hid hMin; have HGB := Lib.hid hgb
    have hww := BW.out.trans (bel.mono BW.out.size)
    have HWW := Lib.hid hww
    by_cases hit : i < l.length
    · have i1 : (↑i : Int) < ↑l.length := by omega
      have hMr := HM.out.below hww
      have d0 := hMr.c0 i hit; have d1 := hMr.c1 i hit
      obtain ⟨A3, c3, d2', hr3, -⟩ := HM.out.c2 i hit
      have d2 := cell_keep hww (Nat.le_refl _) d2'
      have hok := HMAY.out.ok _ (List.getElem_mem hit)
      have hbk := HBK.out _ (List.getElem_mem hit)
      have lA := World.block_lt_of_cell? _ _ d0
      have HSN := Lib.hid (fun k => endL_snoc (m := m) hit k)
      generalize l[i] = y at *
      obtain ⟨q, kc, ko⟩ := y
      simp only at d0 d1 d2 d2' hr3 hok hbk HSN
      obtain ⟨hqn, hgo, ⟨hc0, hc1⟩, hlen⟩ := hok
      have s0 := (HS.out.below hww (Nat.le_refl _)).c0 q hqn
      rw [← HFQ.out q hqn] at s0
      have hvf := HVF.out q hqn
      rw [← HFQ.out q hqn] at hvf
      have hfn := HFN.out q; have hff := HF.out q
      have lB := World.block_lt_of_cell? _ _ s0
      have q0 : (0 : Int) ≤ (q : Int) := by omega
      have q1 : (q : Int) < (m.states.length : Int) := by omega
      obtain ⟨wq, rfl⟩ : ∃ wq : World, wq = wr := ⟨_, rfl⟩
      have mb1 := (P0.out.step bel).cell 1; have mbl := (P0.out.step bel).lt
      have b0 := hB.cell 0; have b1 := hB.cell 1; have b2 := hB.cell 2; have b3 := hB.froz
      simp only [List.getElem?_toArray, List.getElem?_cons_succ, List.getElem?_cons_zero] at mb1 b0 b1 b2
      have bl := hB.lt
      have hval : INF = 1000000001 := rfl
      generalize finQ m q = f at *
      unfold ValidFinal at hvf
      have hwr : wrap64 (kc + f) = kc + f := by unfold wrap64; omega
      by_cases hfi : f = 1000000001
      · have hb : (f != 1000000001) = false := by simp [hfi]
        have hEq : ∀ k, EndL m (l.take (i + 1)) k ↔ EndL m (l.take i) k := fun k => by
          rw [HSN.out k, hval]
          exact ⟨fun h => h.resolve_right fun h => h.1 hfi, .inl⟩
        have HMi := Lib.hid (hMin.congr fun k => (hEq k).symm)
        have HOB := Lib.hid hob
        clear hMin hEq hfi hob hB hrb hgb hMr hr3 hgo bel hww d2' hfn hff hvf hval
        go_wp2_with fail
        go_roundw
        case rel => exact ⟨i + 1, o, bq, ⟨kbc, kbo⟩, Ab, cb, by omega, by go_num, HBEL.out.alloc HBEL.out.size _, HB.out.alloc _, HRB.out, HOB.out, HMi.out, HGB.out, hlb, hcb⟩
        case measure => simp [intOf]; omega
      · have hb : (f != 1000000001) = true := by simp [hfi]
        have hfi' : f ≠ INF := hfi
        have hMi := minO_ok hMin ⟨kc + f, ko⟩
        have hMi2 : MinK (EndL m (l.take (i + 1))) (minO o ⟨kc + f, ko⟩) := hMi.congr fun k => by rw [HSN.out k]; simp [hfi']
        have HMi := Lib.hid hMi2
        have hff' := hff hfi'; have hfn' := hfn hfi'
        have HGO := Lib.hid hgo; have HR3 := Lib.hid hr3
        rcases hob with ⟨rfl, rfl⟩ | ⟨rfl, hbq⟩
        · have hmo : minO none ⟨kc + f, ko⟩ = some ⟨kc + f, ko⟩ := rfl
          rw [hmo] at HMi
          clear hMin hMi hMi2 hfi hfi' hB hrb hgb hMr hr3 hgo bel hww d2' hfn hff hvf hval hmo
          go_wp2_with fail
          go_roundw
          case rel =>
            refine ⟨i + 1, some ⟨kc + f, ko⟩, (q : Int), ⟨kc + f, ko⟩, A3, c3, by omega, by go_num, ?_, ?_, HR3.out, .inr ⟨rfl, q0⟩, HMi.out, HGO.out, hlen, by show kc + f ≤ 200000000; omega⟩
            · exact (((HBEL.out.setCell (p := ⟨w2.heap.size, 0, none⟩) (Nat.le_refl _) _).setCell (p := ⟨w2.heap.size, 1, none⟩) (Nat.le_refl _) _).setCell (p := ⟨w2.heap.size, 2, none⟩) (Nat.le_refl _) _).alloc (by simpa using HBEL.out.size) _
            · exact ((((HB.out.put 0 (.int .i64 (q : Int))).put 1 (.int .i64 (kc + f))).put 2 (.slice A3 ko.length c3)).eq (by simp)).alloc _
          case measure => simp [intOf]; omega
        · have bz : ¬ bq < 0 := by omega
          have LS := Lib.hid (less_any (q : Int) bq ⟨kc + f, ko⟩ ⟨kbc, kbo⟩ A3 Ab c3 cb (wq.alloc (.cells #[.int .i64 (q : Int), .int .i64 (kc + f), .slice A3 ko.length c3] 71)) (hr3.below (hww.alloc hww.size _) rfl) (hrb.below (hww.alloc hww.size _) rfl) hgo hgb (by simp only; omega) (by simp only; omega))
          simp only [markV] at LS
          have XX := Lib.hid (Blk.new wq #[.int .i64 (q : Int), .int .i64 (kc + f), .slice A3 ko.length c3] 71)
          have BA := Lib.hid (hB.alloc (.cells #[.int .i64 (q : Int), .int .i64 (kc + f), .slice A3 ko.length c3] 71))
          have BE := Lib.hid (bel.alloc bel.size (.cells #[.int .i64 (q : Int), .int .i64 (kc + f), .slice A3 ko.length c3] 71))
          have hmo : minO (some ⟨kbc, kbo⟩) ⟨kc + f, ko⟩ = if decide (klt ⟨kc + f, ko⟩ ⟨kbc, kbo⟩) = true then some ⟨kc + f, ko⟩ else some ⟨kbc, kbo⟩ := rfl
          rw [hmo] at HMi
          clear hMin hMi hMi2 hfi hfi' hB hrb hgb hMr hr3 hgo bel hww d2' hfn hff hvf hval hmo
          generalize decide (klt ⟨kc + f, ko⟩ ⟨kbc, kbo⟩) = d at *
          go_wp2_with fail
          refine LS.out.mono ?_; rintro e w8 ⟨rfl, b8⟩
          have B8 := BA.out.step b8; have X8 := XX.out.step b8
          have HB8 := Lib.hid B8
          have HE8 := Lib.hid (BE.out.trans (b8.mono BE.out.size))
          have g0 := B8.cell 0; have g1 := B8.cell 1; have g2 := B8.cell 2; have g3 := B8.froz; have gl := B8.lt
          have x0 := X8.cell 0; have x1 := X8.cell 1; have x2 := X8.cell 2; have xl8 := X8.lt
          simp only [List.getElem?_toArray, List.getElem?_cons_succ, List.getElem?_cons_zero] at g0 g1 g2 x0 x1 x2
          clear B8 X8 b8 LS XX BA BE
          cases d
          · simp only [Bool.false_eq_true, if_false] at HMi
            go_wp2_with fail
            go_roundw
            case rel => exact ⟨i + 1, some ⟨kbc, kbo⟩, bq, ⟨kbc, kbo⟩, Ab, cb, by omega, by go_num, HE8.out, HB8.out, HRB.out, .inr ⟨rfl, hbq⟩, HMi.out, HGB.out, hlb, hcb⟩
            case measure => simp [intOf]; omega
          · simp only [if_true] at HMi
            go_wp2_with fail
            go_roundw
            case rel =>
              refine ⟨i + 1, some ⟨kc + f, ko⟩, (q : Int), ⟨kc + f, ko⟩, A3, c3, by omega, by go_num, ?_, ?_, HR3.out, .inr ⟨rfl, q0⟩, HMi.out, HGO.out, hlen, by show kc + f ≤ 200000000; omega⟩
              · exact ((HE8.out.setCell (p := ⟨w2.heap.size, 0, none⟩) (Nat.le_refl _) _).setCell (p := ⟨w2.heap.size, 1, none⟩) (Nat.le_refl _) _).setCell (p := ⟨w2.heap.size, 2, none⟩) (Nat.le_refl _) _
              · exact (((HB8.out.put 0 (.int .i64 (q : Int))).put 1 (.int .i64 (kc + f))).put 2 (.slice A3 ko.length c3)).eq (by simp)
            case measure => simp [intOf]; omega
    · obtain rfl : l.length = i := by omega
      have i1 : ¬ (↑l.length : Int) < ↑l.length := by omega
      rw [List.take_length] at hMin
      have HET := Lib.hid (HTB.out o (hMin.congr fun k => HEL.out k))
      have b0 := hB.cell 0; have b1 := hB.cell 1; have b2 := hB.cell 2; have bl := hB.lt
      simp only [List.getElem?_toArray, List.getElem?_cons_succ, List.getElem?_cons_zero] at b0 b1 b2
      rcases hob with ⟨rfl, rfl⟩ | ⟨rfl, hbq⟩
      · have HNO : Hid (∀ k : KeyL, ¬ Tot m x k.out false k.c) := Lib.hid fun k hk => by
          obtain ⟨k', h, -⟩ := HET.out.2 k hk; cases h
        clear hMin hB hrb hgb bel hww
        go_wp2_with fail
        refine bodyPost_ret (v := .tuple #[.slice none 0 0, .int .i64 0, .int .i64 12]) (by simp [results, Try.results14, go_sem]) rfl ⟨.inl ⟨rfl, HNO.out⟩, HWW.out⟩
      · have HSO : Hid (Tot m x kbo false kbc ∧ ∀ k' : KeyL, Tot m x k'.out false k'.c → ¬ klt k' ⟨kbc, kbo⟩) := Lib.hid ⟨HET.out.1 _ rfl, fun k' hk => by
          obtain ⟨k0, h, hn⟩ := HET.out.2 k' hk; cases h; exact hn⟩
        have bz : ¬ bq < 0 := by omega
        have bz2 : ¬ (1000000000 : Int) < kbc := by omega
        have CLN := Lib.hid (fun W (hb : Below wr.heap.size wr W) => clone_ints Ab kbo cb W (hrb.below (hww.trans (hb.mono hww.size)) rfl) (by omega))
        have KS : Hid (∀ W, Below wr.heap.size wr W → W.cell? ⟨w2.heap.size, 1, none⟩ = some (.int .i64 kbc) ∧ W.cell? ⟨w2.heap.size, 2, none⟩ = some (.slice Ab kbo.length cb) ∧ Below wr.heap.size wr W) := Lib.hid fun W hb => ⟨cell_keep hb (Nat.le_refl _) b1, cell_keep hb (Nat.le_refl _) b2, hb⟩
        clear hMin hB hrb hgb bel hww
        generalize hnk : kbo.length = nk at *
        have HNK := Lib.hid hnk
        clear hnk
        go_wp2_with fail
        go_region_held3 (fun W => W.cell? ⟨w2.heap.size, 1, none⟩ = some (.int .i64 kbc) ∧ W.cell? ⟨w2.heap.size, 2, none⟩ = some (.slice Ab nk cb) ∧ Below wr.heap.size wr W) (first | exact KS.out _ ((Below.refl _ _).drew) | (go_split_ands; exact KS.out _ (Below.step (a := wr) (by first | exact (Below.refl _ _).drew | assumption) b6)))
          (first | (go_at_call 28; go_split_ands; refine (CLN.out _ (by first | exact (Below.refl _ _).drew | assumption)).mono ?_; rintro e w6 ⟨v6, rfl, ho6, b6⟩; obtain ⟨A6, c6, rfl, -, -⟩ := own_form ho6))
        all_goals
          have BX : Below wr.heap.size wr w6 := by go_split_ands; assumption
          have bz9 := HWW.out.trans (BX.mono HWW.out.size)
          have hrd := Rd.of_own ho6
          go_wp2_with fail
          refine bodyPost_ret (v := .tuple #[.slice A6 nk c6, .int .i64 kbc, .int .i64 0]) (by simp [results, Try.results14, go_sem]) rfl ⟨.inr ⟨⟨kbc, kbo⟩, A6, c6, by simp only [HNK.out], by simp only [HNK.out]; exact hrd, HSO.out.1, HGB.out, ⟨by simp only [HNK.out]; omega, hcb⟩, HSO.out.2⟩, bz9⟩
end Go.Proofs.Ytikkmoleneioeaa

namespace Go.Proofs.Ytikkmoleneioeaa
open Go.RowKit

theorem geo_small : ∀ n : Fin 7, n.val + n.val * geo 4 (n.val - 1) ≤ 100000 := by decide
theorem made_smallS (r : RawL) (k : Nat) (h1 : 1 ≤ k) (h6 : k ≤ 6) : SmallS (mkMach r k false) 9 4 := by
  have hl := made_little r k false h1
  have hq : ∀ q, arcsQ (mkMach r k false) q = [] ∨ ∃ s ∈ (mkMach r k false).states, arcsQ (mkMach r k false) q = s.arcs := fun q => by
    unfold arcsQ
    cases hs : (mkMach r k false).states[q]? with
    | none => exact .inl rfl
    | some s => exact .inr ⟨s, List.mem_of_getElem? hs, rfl⟩
  refine ⟨fun q => ?_, fun q a ha => ?_, by omega, by omega, ?_⟩
  · rcases hq q with h | ⟨s, hs, h⟩
    · rw [h]; simp
    · rw [h]; exact hl.arcs s hs
  · rcases hq q with h | ⟨s, hs, h⟩
    · rw [h] at ha; cases ha
    · rw [h] at ha; exact hl.wt s hs a ha
  · exact geo_small ⟨_, Nat.lt_succ_of_le (Nat.le_trans hl.len h6)⟩
theorem made_finQ (r : RawL) (k : Nat) (h1 : 1 ≤ k) : ∀ q, finQ (mkMach r k false) q ≠ INF → finQ (mkMach r k false) q ≤ 9 := fun q h => by
  have hl := made_little r k false h1
  unfold finQ at *
  cases hs : (mkMach r k false).states[q]? with
  | none => rw [hs] at h; exact absurd rfl h
  | some s =>
    rw [hs] at h
    simp only [Option.map_some, Option.getD_some] at h ⊢
    exact hl.fin s (List.mem_of_getElem? hs) h
theorem accW_any {m : MachL} {x : List Int} {q : Nat} {u v : List Int} {c : Int} (h : AccW m q u v c) : ∀ i, i ≤ x.length → u = x.drop i → Acc m x [] true (q, i, 0) c := by
  induction h with
  | @fin q s hs hf =>
    intro i hi hu
    have h1 := congrArg List.length hu
    simp only [List.length_nil, List.length_drop] at h1
    have e : finalP m (q, i, 0) = s.final := by unfold finalP; simp only [hs]; rfl
    rw [← e]
    refine Acc.fin ?_ (by rw [e]; exact hf)
    unfold endsP
    simp only [Bool.true_or, Bool.and_true, beq_iff_eq]; omega
  | @arc q s a x' y' c hs ha _ ih =>
    intro i hi hu
    obtain ⟨h1, h2⟩ := step_drop hu.symm
    refine Acc.arc (a := a) (q := (a.to.toNat, stepAt i a.inn, 0)) ?_ ?_ (ih _ (stepAt_le h1 hi) h2)
    · unfold arcsP; simp only [hs]; exact ha
    · unfold nextP
      simp only [Bool.true_or, Bool.and_true, if_true]
      rw [if_pos h1]
theorem any_totS {m : MachL} {x y : List Int} {c : Int} (h : Tot m x y false c) : Tot m x [] true c := by
  obtain ⟨h0, h⟩ := tot_accW.1 h
  exact tot_acc.2 ⟨h0, accW_any h 0 (Nat.zero_le _) rfl⟩
theorem begin_marks {m : MachL} (hv : Valid m) {WW : Int} {L : TabK} (h : StT m WW [] L) (h0 : 0 ≤ m.start) : 0 < (marksL L m.states.length).length := by
  obtain ⟨k, hk, -⟩ := (h.tab m.start.toNat).2 _ (.start h0)
  have hm : m.start.toNat ∈ hasL L m.states.length := by
    unfold hasL
    exact List.mem_filter.2 ⟨List.mem_range.2 (by have := hv.s1; omega), by rw [hk]; rfl⟩
  unfold marksL
  rw [List.length_map]
  exact List.length_pos_of_mem hm
theorem best_is {T : Int → Prop} {r c : Int} (h : Best T r) (hc : T c) (hm : ∀ d, T d → c ≤ d) : r = c := by
  rcases h with ⟨-, h⟩ | ⟨h1, h2, -⟩
  · exact absurd hc (h c)
  · have := h2 c hc; have := hm r h1; omega
theorem best_none {T : Int → Prop} {r : Int} (h : Best T r) (hn : ∀ c, ¬ T c) : r = INF := by
  rcases h with ⟨h, -⟩ | ⟨h, -⟩
  · exact h
  · exact absurd h (hn r)
theorem end_reads {m : MachL} {x : List Int} {k : KeyL} {n : Int} (h1 : Tot m x k.out false k.c) (h2 : ∀ k' : KeyL, Tot m x k'.out false k'.c → ¬ klt k' k) (hb : Best (Tot m x [] true) n) : n = k.c := by
  refine best_is hb (any_totS h1) fun d hd => ?_
  obtain ⟨y, hy⟩ := tot_some hd
  have := h2 ⟨d, y⟩ hy
  unfold klt at this
  simp only at this
  omega
theorem end_cost {m : MachL} {x : List Int} {k : KeyL} {n : Int} (h1 : Tot m x k.out false k.c) (h2 : ∀ k' : KeyL, Tot m x k'.out false k'.c → ¬ klt k' k) (hb : Best (Tot m x k.out false) n) : n = k.c := by
  refine best_is hb h1 fun d hd => ?_
  have := h2 ⟨d, k.out⟩ hd
  unfold klt at this
  simp only at this
  omega
theorem end_none {m : MachL} {x : List Int} {n : Int} (h : ∀ k : KeyL, ¬ Tot m x k.out false k.c) (hb : Best (Tot m x [] true) n) : n = INF := best_none hb fun c hc => by
  obtain ⟨y, hy⟩ := tot_some hc
  exact h ⟨c, y⟩ hy
theorem FedZ.o {m : MachL} {WW : Int} {x : List Int} {Z : Nat → Prop} {w : World} {rv : Value} (h : FedZ m WW x Z w rv) : FedO m WW x w rv := by
  obtain ⟨L, h1, h2⟩ := h
  exact ⟨L, h1.other fun _ e => e.elim, h2⟩
theorem FedZ.set {m : MachL} {WW : Int} {x : List Int} {Z : Nat → Prop} {w : World} {rv : Value} (h : FedZ m WW x Z w rv) {a : Addr} (ha : Z a.block) (u : Value) : FedZ m WW x Z (w.setCell a u) rv := by
  obtain ⟨L, h1, h2⟩ := h
  exact ⟨L, h1.set ha u, h2⟩
theorem fed_below {m : MachL} {WW : Int} {x : List Int} {Z : Nat → Prop} {w w' : World} {rv : Value} (h : FedZ m WW x Z w rv) (hb : Below w.heap.size w w') : FedZ m WW x Z w' rv := by
  obtain ⟨L, h1, h2⟩ := h
  exact ⟨L, h1.below hb, h2⟩
theorem Begin_use (A : Option Addr) (c : Nat) (m : MachL) (w : World) (WW : Int) (AA : Nat) (hm : StatesAt w A m.states) (hv : Valid m) (hs : SmallS m WW AA) (h0 : 0 ≤ m.start) :
    Calls Try.prog 11 #[.agg #[.int .i64 m.start, .slice A m.states.length c]] w fun e w' => ∃ A' k' c', e = .returned (.tuple #[.agg #[.int .i64 0, .slice A' k' c'], .int .i64 0]) ∧ FedO m WW [] w' (.agg #[.int .i64 0, .slice A' k' c']) ∧ 0 < k' ∧ Below w.heap.size w w' := by
  refine (Begin_any _ m w WW AA ⟨A, c, rfl, hm⟩ hv hs).mono ?_
  rintro e w' ⟨rv, rfl, ⟨L, ⟨A', c', rfl, h1⟩, h2⟩, hb⟩
  exact ⟨A', _, c', rfl, ⟨L, ⟨A', c', rfl, h1⟩, h2⟩, begin_marks hv h2 h0, hb⟩
theorem Feed_use (A : Option Addr) (c : Nat) (rv0 : Value) (m : MachL) (w : World) (WW : Int) (AA : Nat) (x ls : List Int) (Al : Option Addr) (nl cl : Nat) (f : Int) (hm : StatesAt w A m.states) (hv : Valid m) (hs : SmallS m WW AA) (hr : FedO m WW x w rv0) (hl : Rd w Al nl 1 (icells ls)) (hg : GoodW ls) (hx : x.length + nl ≤ 12) (hf : (x.length : Int) + nl = f) :
    Calls Try.prog 12 #[.agg #[.int .i64 m.start, .slice A m.states.length c], rv0, .slice Al nl cl] w fun e w' => ∃ A' k' c', e = .returned (.tuple #[.agg #[.int .i64 f, .slice A' k' c'], .int .i64 0]) ∧ FedZ m WW (x ++ ls) (fun g => g < w.heap.size) w' (.agg #[.int .i64 f, .slice A' k' c']) ∧ Below w.heap.size w w' := by
  have hn := rdi_len hl
  refine (Feed_any _ rv0 m w WW AA x ls Al nl cl ⟨A, c, rfl, hm⟩ hv hs hr hl hg hx).mono ?_
  rintro e w' ⟨rv, rfl, ⟨L, ⟨A', c', rfl, h1⟩, h2⟩, hb⟩
  have e1 : ((x ++ ls).length : Nat) = f := by rw [List.length_append]; omega
  refine ⟨A', _, c', by rw [e1], ⟨L, ⟨A', c', by rw [e1], h1⟩, h2⟩, hb⟩
theorem End_use (A : Option Addr) (c : Nat) (rv0 : Value) (m : MachL) (w : World) (WW F : Int) (AA : Nat) (x : List Int) (hm : StatesAt w A m.states) (hv : Valid m) (hs : SmallS m WW AA) (hr : FedO m WW x w rv0) (hx : x.length ≤ 12) (hW : WW ≤ 100000) (hF : ∀ q, finQ m q ≠ INF → finQ m q ≤ F) (hF1 : F ≤ 100000000) :
    Calls Try.prog 14 #[.agg #[.int .i64 m.start, .slice A m.states.length c], rv0] w fun e w' => EndA m x w' e ∧ Below w.heap.size w w' := by
  obtain ⟨L, h1, h2⟩ := hr
  exact End_any _ _ m w WW F AA x L ⟨A, c, rfl, hm⟩ hv hs h1 h2 hx hW hF hF1
end Go.Proofs.Ytikkmoleneioeaa
