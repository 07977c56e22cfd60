/- The walk of ComposeExpanded. -/
import Derived.Test.YtfikkpgigicepaaExpandAny
import Derived.Test.YtfikkpgigicepaaCompLaw
import Derived.Test.YtfikkpgigicepaaPick
namespace Go.Proofs.Ytfikkpgigicepaa
open Go.RowKit

namespace composeExpanded
set_option maxRecDepth 100000 in
set_option maxHeartbeats 16000000 in
theorem walk {w : World} (v1 : Value) (r1 : RawL) (hr1 : RawArg w v1 r1) (v2 : Value) (r2 : RawL) (hr2 : RawArg w v2 r2) (A1 : Option Addr) (n1 k1 : Nat) (xs : List Int) (hx : IntArg w A1 n1 xs) :
    Calls Try.prog 3 #[v1, v2, .slice A1 n1 k1] w fun e w' => e = .returned (.bool true) ∧ Below w.heap.size w w' := by
  have hma : Valid (mkMach r1 4 false) := valid_made r1 4 false (by omega) (by omega)
  have hmb : Valid (mkMach r2 4 false) := valid_made r2 4 false (by omega) (by omega)
  have hla := (made_little r1 4 false (by omega)).wt9
  have hlb := (made_little r2 4 false (by omega)).wt9
  have ha0 : 0 ≤ (mkMach r1 4 false).start := pick_lo _ _ (by unfold mkN; omega)
  have hb0 : 0 ≤ (mkMach r2 4 false).start := pick_lo _ _ (by unfold mkN; omega)
  have HM1 := Lib.hid (fun W hb => made_any v1 r1 4 false W (hr1.below hb) (by omega) (by omega))
  have HM2 := Lib.hid (fun W hb => made_any v2 r2 4 false W (hr2.below hb) (by omega) (by omega))
  have hnx := hx.len; have hmx := hx.max
  subst hnx
  have HX := Lib.hid hx
  have rdx := hx.rd.rdy
  obtain ⟨-, -, A, c, rfl, -⟩ := hr1
  obtain ⟨-, -, B, d, rfl, -⟩ := hr2
  generalize mkMach r1 4 false = a at *
  generalize mkMach r2 4 false = b at *
  have hWt := hla.ok hlb (by omega)
  have HC := Lib.hid (fun va vb W h1 h2 => Compose_any va vb a b 9 9 W h1 h2 hma hmb ha0 hb0 hWt)
  have HE := Lib.hid (fun va vb t W h1 h2 ht => Expand_any va vb a b t 9 9 W h1 h2 hma hmb ht hWt)
  have HR := Lib.hid (fun (t : TriL) ht (h : HopL) hm => hop_rng hma hmb (t := t) ht (h := h) hm)
  have HL := Lib.hid (hops_len hma hmb)
  have HCV := Lib.hid (fun c T (h : ComposeOk a b c T) h1 h2 => comp_valid hma hmb hWt h h1 h2)
  have hs1 := hma.s1; have hs2 := hmb.s1
  obtain ⟨sa, hsa⟩ : ∃ sa : Nat, a.start = sa := ⟨a.start.toNat, by omega⟩
  obtain ⟨sb, hsb⟩ : ∃ sb : Nat, b.start = sb := ⟨b.start.toNat, by omega⟩
  have hsa2 : a.start.toNat = sa := by omega
  have hsb2 : b.start.toNat = sb := by omega
  have hrs : sa < a.states.length ∧ sb < b.states.length := by omega
  have HRS := Lib.hid hrs; have HSA := Lib.hid hsa; have HSB := Lib.hid hsb; have HSA2 := Lib.hid hsa2; have HSB2 := Lib.hid hsb2
  clear hma hmb hla hlb ha0 hb0 hx hWt hs1 hs2 hsa hsb hsa2 hsb2 hrs
  go_enter Try.func3, Try.ntmps3
  go_upto_region 1 with fail
  have R1 : Hid (Blk ((w.alloc (.cells #[.int .i64 r1.start, .slice A r1.nodes.length c] 24)).alloc (.cells #[.int .i64 r2.start, .slice B r2.nodes.length d] 24)) (w.heap.size) #[.int .i64 r1.start, .slice A r1.nodes.length c] 24) := Lib.hid ((Blk.new' (by simp)).alloc _)
  have R2 : Hid (Blk ((w.alloc (.cells #[.int .i64 r1.start, .slice A r1.nodes.length c] 24)).alloc (.cells #[.int .i64 r2.start, .slice B r2.nodes.length d] 24)) (w.heap.size + 1) #[.int .i64 r2.start, .slice B r2.nodes.length d] 24) := Lib.hid (Blk.new' (by simp))
  have b0 : Below w.heap.size w ((w.alloc (.cells #[.int .i64 r1.start, .slice A r1.nodes.length c] 24)).alloc (.cells #[.int .i64 r2.start, .slice B r2.nodes.length d] 24)) := (by repeat' (first | exact Below.refl _ _ | assumption | refine Below.drew ?_ | refine Below.alloc ?_ (by first | omega | (simp; done) | (simp; omega)) _ | refine Below.setCell ?_ (by first | omega | (simp; done) | (simp; omega)) _))
  generalize ((w.alloc (.cells #[.int .i64 r1.start, .slice A r1.nodes.length c] 24)).alloc (.cells #[.int .i64 r2.start, .slice B r2.nodes.length d] 24)) = w0 at *
  have k_R1 := R1.out.cell; have l_R1 := R1.out.lt
  go_wp2_with fail
  clear k_R1 l_R1
  refine (HM1.out _ b0).mono ?_; rintro e w1 ⟨mv1, rfl, o1, q1⟩
  have b1 : Below w.heap.size w w1 := b0.trans (q1.mono b0.size)
  replace R1 := Lib.hid (R1.out.step q1)
  replace R2 := Lib.hid (R2.out.step q1)
  obtain ⟨A3, c3, rfl, s1⟩ := own_open o1
  have X1 := Lib.hid (MBox.new (c := c3) s1)
  clear o1 s1
  go_upto_region 2 with fail
  replace R2 := Lib.hid (R2.out.alloc (.cells #[.int .i64 a.start, .slice A3 a.states.length c3] 28))
  have b1a := b1.alloc b1.size (.cells #[.int .i64 a.start, .slice A3 a.states.length c3] 28)
  generalize w1.alloc (.cells #[.int .i64 a.start, .slice A3 a.states.length c3] 28) = w1a at *
  generalize w1.heap.size = ba at *
  have k_R2 := R2.out.cell; have l_R2 := R2.out.lt
  go_wp2_with fail
  clear k_R2 l_R2
  refine (HM2.out _ b1a).mono ?_; rintro e w2 ⟨mv2, rfl, o2, q2⟩
  have b2 : Below w.heap.size w w2 := b1a.trans (q2.mono b1a.size)
  replace R2 := Lib.hid (R2.out.step q2)
  replace X1 := Lib.hid (X1.out.step q2)
  obtain ⟨A4, c4, rfl, s2⟩ := own_open o2
  have X2 := Lib.hid (MBox.new (c := c4) s2)
  clear o2 s2
  go_upto_region 3 with fail
  replace X1 := Lib.hid (X1.out.alloc (.cells #[.int .i64 b.start, .slice A4 b.states.length c4] 28))
  have b2a := b2.alloc b2.size (.cells #[.int .i64 b.start, .slice A4 b.states.length c4] 28)
  generalize w2.alloc (.cells #[.int .i64 b.start, .slice A4 b.states.length c4] 28) = w2a at *
  generalize w2.heap.size = bb at *
  have k_X1 := X1.out.blk.cell; have l_X1 := X1.out.blk.lt
  have k_X2 := X2.out.blk.cell; have l_X2 := X2.out.blk.lt
  go_wp2_with fail
  clear k_X1 l_X1 k_X2 l_X2
  refine (HC.out _ _ _ X1.out.mach X2.out.mach).mono ?_; rintro e w3 ⟨hco, q3⟩
  have b3 : Below w.heap.size w w3 := b2a.trans (q3.mono b2a.size)
  replace X1 := Lib.hid (X1.out.step q3)
  replace X2 := Lib.hid (X2.out.step q3)
  rcases hco with ⟨rfl, -⟩ | ⟨mvc, c, T, rfl, oc, hck, hcs, hcA⟩
  · go_wp2_with fail
    go_ret
    exact ⟨rfl, b3.alloc b3.size _⟩
  obtain ⟨A5, c5, rfl, s5⟩ := own_open oc
  obtain ⟨hcv, -⟩ := HCV.out c T hck hcs hcA
  have X5 := Lib.hid (MBox.new (c := c5) s5)
  have hc0 := hck.start
  have hcp := comp_pos hck
  have HCK := Lib.hid hck; have HCVA := Lib.hid hcv; have HC0 := Lib.hid hc0
  have hci : (0 : Int) < (c.states.length : Int) := by omega
  have hce : ((c.states.length : Int) == 0) = false := beq_eq_false_iff_ne.2 (by omega)
  clear oc s5 hck hcv hcs hcA
  rw [hc0] at X5
  rw [hc0]
  clear hc0
  go_upto_region 4 with fail
  replace X1 := Lib.hid (X1.out.alloc (.cells #[.int .i64 0, .slice A5 c.states.length c5] 28))
  replace X2 := Lib.hid (X2.out.alloc (.cells #[.int .i64 0, .slice A5 c.states.length c5] 28))
  have b3a := b3.alloc b3.size (.cells #[.int .i64 0, .slice A5 c.states.length c5] 28)
  generalize w3.alloc (.cells #[.int .i64 0, .slice A5 c.states.length c5] 28) = w3a at *
  generalize w3.heap.size = bc at *
  have k_X5 : w3a.cell? ⟨bc, 0, none⟩ = some (.int .i64 0) := by have := X5.out.blk.cell 0; rw [HC0.out] at this; exact this
  have m_X5 := X5.out.blk.cell 1
  simp only [List.getElem?_toArray, List.getElem?_cons_succ, List.getElem?_cons_zero] at m_X5
  have l_X5 := X5.out.blk.lt
  have k_X1 := X1.out.blk.cell; have l_X1 := X1.out.blk.lt; have k_X2 := X2.out.blk.cell; have l_X2 := X2.out.blk.lt
  rw [HSA.out] at k_X1
  rw [HSB.out] at k_X2
  go_upto_region 11 with fail
  have T9 : Hid (Blk (w3a.alloc (.cells #[.int .i64 sa, .int .i64 sb, .int .i64 0] 34)) w3a.heap.size #[.int .i64 sa, .int .i64 sb, .int .i64 0] 34) := Lib.hid (Blk.new _ _ _)
  have b9 : Below w3a.heap.size w3a (w3a.alloc (.cells #[.int .i64 sa, .int .i64 sb, .int .i64 0] 34)) := (by repeat' (first | exact Below.refl _ _ | assumption | refine Below.drew ?_ | refine Below.alloc ?_ (by first | omega | (simp; done) | (simp; omega)) _ | refine Below.setCell ?_ (by first | omega | (simp; done) | (simp; omega)) _))
  clear k_X5 m_X5 l_X5 k_X1 l_X1 k_X2 l_X2
  generalize w3a.alloc (.cells #[.int .i64 sa, .int .i64 sb, .int .i64 0] 34) = w9 at *
  obtain ⟨wb, rfl⟩ : ∃ wz : World, wz = w3a := ⟨_, rfl⟩
  have HB := Lib.hid b3a
  have hf0 : T[0]? = some ⟨sa, sb, 0⟩ := by have := HCK.out.first; rw [HSA2.out, HSB2.out] at this; exact this
  have hr0 : (⟨sa, sb, 0⟩ : TriL).a < a.states.length ∧ (⟨sa, sb, 0⟩ : TriL).b < b.states.length ∧ (⟨sa, sb, 0⟩ : TriL).f ≤ 2 := ⟨HRS.out.1, HRS.out.2, by simp⟩
  generalize htb : wb.heap.size = tb at *
  have HTB := Lib.hid htb; clear htb
  go_loopw [12, 13] (fun qv iv wx => ∃ (q i : Nat) (t : TriL), qv = .int .i64 q ∧ iv = .int .i64 i ∧ i ≤ xs.length ∧ i ≤ 40 ∧ T[q]? = some t ∧ (t.a < a.states.length ∧ t.b < b.states.length ∧ t.f ≤ 2) ∧ Blk wx tb #[.int .i64 t.a, .int .i64 t.b, .int .i64 t.f] 34 ∧ Below tb wb wx) (fun _ iv _ => 40 - (intOf iv).toNat)
  case atStart => exact ⟨0, 0, ⟨sa, sb, 0⟩, rfl, rfl, by omega, by omega, hf0, hr0, T9.out, b9⟩
  case round =>
    obtain ⟨q, i, t, rfl, rfl, hix, hi4, htq, htr, hT, hbl⟩ := hrel
    have i0 : (0 : Int) ≤ (i : Int) := by omega
    have q0 : (0 : Int) ≤ (q : Int) := by omega
    have hbl2 : Below wb.heap.size wb wr := by rw [HTB.out]; exact hbl
    have bw : Below w.heap.size w wr := HB.out.trans (hbl2.mono HB.out.size)
    have HBW := Lib.hid bw; have HBL := Lib.hid hbl2; have HT := Lib.hid hT; have HTQ := Lib.hid htq; have HTR := Lib.hid htr
    clear hT htq htr hbl hbl2 bw
    by_cases hlt : i < xs.length
    · have i1 : (i : Int) < (xs.length : Int) := by omega
      by_cases hlt4 : i < 40
      · have i2 : (i : Int) < 40 := by omega
        have Xa := X1.out.step HBL.out; have Xb := X2.out.step HBL.out; have Xc := X5.out.step HBL.out
        have k1 := Xa.blk.cell; have l1 := Xa.blk.lt; have k2 := Xb.blk.cell; have l2 := Xb.blk.lt; have k3 := HT.out.cell; have l3 := HT.out.lt
        have EXt := Lib.hid (HE.out _ _ t _ Xa.mach Xb.mach HTR.out)
        unfold triV at EXt
        clear Xa Xb Xc
        go_wp2_with fail
        refine EXt.out.mono ?_; rintro e w7 ⟨hA, hc, rfl, ho, q7⟩
        have hqT := (List.getElem?_eq_some_iff.1 HTQ.out).1
        have hqc : q < c.states.length := by rw [← HCK.out.len]; exact hqT
        have hsq := List.getElem?_eq_getElem hqc
        have hfin := HCK.out.fin q t _ HTQ.out hsq
        obtain ⟨hlen, harc⟩ := HCK.out.arcs q t _ HTQ.out hsq
        have hvs := (HCVA.out.st _ (List.getElem_mem hqc)).2
        have hhl := HL.out t
        have B7 := Lib.hid (HBL.out.trans (q7.mono HBL.out.size)); have T7 := Lib.hid (HT.out.step q7); have BW7 := Lib.hid (HBW.out.trans (q7.mono HBW.out.size))
        have HO := Lib.hid ho
        have Xc := X5.out.step B7.out
        have S7 := Xc.at_
        have rdc := S7.rdy
        have d0 := S7.c0 q hqc
        obtain ⟨AS, cS, d1', hAS⟩ := X5.out.at_.c1 q hqc
        have d1 := cell_keep B7.out (Nat.le_refl _) d1'
        clear d1'
        have m0 := Xc.blk.cell 1; have lm := Xc.blk.lt
        simp only [List.getElem?_toArray, List.getElem?_cons_succ, List.getElem?_cons_zero] at m0
        generalize c.states[q] = s at *
        rw [hfin] at d0
        rw [hlen] at d1
        have rdA := hAS.rdy
        rw [hlen] at rdA
        have q1 : (q : Int) < (c.states.length : Int) := by omega
        have ld := World.block_lt_of_cell? _ _ d0
        have HLEN := Lib.hid hlen; have HARC := Lib.hid harc; have HAS := Lib.hid hAS; have HVS := Lib.hid hvs
        have HHR := Lib.hid (fun h hm => HR.out t ⟨HTR.out.1, HTR.out.2.1⟩ h hm)
        clear hlen harc hAS hvs hfin hsq S7 Xc ho q7 k1 l1 k2 l2 k3 l3 EXt
        generalize finT a b t = ft at *
        generalize hopsX a b t = hs at *
        go_upto_region 18 with fail
        have b8 : Below w7.heap.size w7 (w7.alloc (.cells #[.int .i64 ft, .slice AS hs.length cS] 40)) := (by repeat' (first | exact Below.refl _ _ | assumption | refine Below.drew ?_ | refine Below.alloc ?_ (by first | omega | (simp; done) | (simp; omega)) _ | refine Below.setCell ?_ (by first | omega | (simp; done) | (simp; omega)) _))
        have Z8 : Hid (Blk (w7.alloc (.cells #[.int .i64 ft, .slice AS hs.length cS] 40)) w7.heap.size #[.int .i64 ft, .slice AS hs.length cS] 40) := Lib.hid (Blk.new _ _ _)
        replace HO := Lib.hid (own_below HO.out b8 (Nat.le_refl _))
        have B8 := Lib.hid (B7.out.trans (b8.mono B7.out.size)); have T8 := Lib.hid (T7.out.step b8); have BW8 := Lib.hid (BW7.out.trans (b8.mono BW7.out.size))
        have m8 := cell_keep b8 (Nat.le_refl _) m0; have lm8 := Nat.lt_of_lt_of_le lm b8.size
        clear b8 T7 B7 BW7 d0 d1 ld m0 lm
        generalize w7.alloc (.cells #[.int .i64 ft, .slice AS hs.length cS] 40) = w8 at *
        generalize w7.heap.size = sx at *
        have rdH := (Rd.of_own HO.out).rdy
        have hcellH : ∀ (W : World) (_ : Below w8.heap.size w8 W) (k : Nat) (hk : k < hs.length) (j : Nat) (_ : j < 6), W.cell? ⟨blk hA, ofs hA + (k * 6 + j), none⟩ = (hopCells hs[k])[j]? := fun W hb k hk j hj => by
          have e := flatMap_at hopCells 6 (fun _ => rfl) hs k hk j hj
          have hs' : (hopCells hs[k])[j]? = some ((hopCells hs[k])[j]'hj) := List.getElem?_eq_getElem hj
          rw [hs']
          exact cell_keep hb (Nat.le_refl _) ((Rd.of_own HO.out).at' (e.trans hs'))
        have HH := Lib.hid hcellH
        have hcellA : ∀ (k : Nat) (hk : k < hs.length), ∃ dst : Int, 0 ≤ dst ∧ dst < c.states.length ∧ T[dst.toNat]? = some hs[k].goes ∧ ∀ (W : World) (_ : Below wb.heap.size wb W), W.cell? ⟨blk AS, ofs AS + k * 4, none⟩ = some (.int .i64 hs[k].inn) ∧ W.cell? ⟨blk AS, ofs AS + k * 4 + 1, none⟩ = some (.int .i64 hs[k].out) ∧ W.cell? ⟨blk AS, ofs AS + k * 4 + 2, none⟩ = some (.int .i64 hs[k].wt) ∧ W.cell? ⟨blk AS, ofs AS + k * 4 + 3, none⟩ = some (.int .i64 dst) := fun k hk => by
          have hk2 : k < s.arcs.length := by rw [HLEN.out]; exact hk
          obtain ⟨e1, e2, e3, e4, e5⟩ := HARC.out k _ _ (List.getElem?_eq_getElem hk) (List.getElem?_eq_getElem hk2)
          have hv := HVS.out _ (List.getElem_mem hk2)
          refine ⟨s.arcs[k].to, e4, hv.t1, e5, fun W hb => ?_⟩
          have hA' := HAS.out.below hb (Nat.le_refl _)
          refine ⟨?_, ?_, ?_, hA'.c3 k hk2⟩
          · rw [← e1]; exact hA'.c0 k hk2
          · rw [← e2]; exact hA'.c1 k hk2
          · rw [← e3]; exact hA'.c2 k hk2
        have HA := Lib.hid hcellA
        clear hcellH hcellA HAS HO
        go_loopw [18] (fun kv wx => ∃ k : Nat, k ≤ hs.length ∧ kv = .int .i64 k ∧ Below w8.heap.size w8 wx) (fun kv _ => hs.length - (intOf kv).toNat)
        case atStart => exact ⟨0, by omega, rfl, Below.refl _ _⟩
        case round =>
          obtain ⟨k, hk, rfl, hbk⟩ := hrel
          have k0 : (0 : Int) ≤ (k : Int) := by omega
          have HBK := Lib.hid hbk
          have kz := (Z8.out.step hbk).cell; have lz := (Z8.out.step hbk).lt
          by_cases hlk : k < hs.length
          · have k1' : (k : Int) < (hs.length : Int) := by omega
            have hHc := fun j hj => HH.out wr hbk k hlk j hj
            obtain ⟨dst, -, -, -, hac⟩ := HA.out k hlk
            obtain ⟨a0, a1, a2, -⟩ := hac wr (B8.out.trans (hbk.mono B8.out.size))
            have h0 := hHc 0 (by omega); have h1 := hHc 1 (by omega); have h2 := hHc 2 (by omega)
            generalize hs[k] = h at *
            simp only [hopCells, Nat.add_zero, List.getElem?_cons_zero, List.getElem?_cons_succ, ← Nat.add_assoc] at h0 h1 h2
            have u0 : (h.inn != h.inn) = false := by simp
            have u1 : (h.out != h.out) = false := by simp
            have u2 : (h.wt != h.wt) = false := by simp
            have lh := World.block_lt_of_cell? _ _ h0; have la := World.block_lt_of_cell? _ _ a0
            clear hHc hbk hac
            go_upto_region 20 with fail
            go_quiet (fail)
            have bel3 := HBK.out.trans ((drewN_below wr nq).mono HBK.out.size)
            clear h0 h1 h2 a0 a1 a2 kz lz lh la
            go_wp2_with fail
            go_roundw
            case rel => exact ⟨k + 1, by omega, by go_num, bel3⟩
            case measure => simp [intOf]; omega
          · obtain rfl : k = hs.length := by omega
            have k1' : ¬ (↑hs.length : Int) < ↑hs.length := by omega
            have BWk := Lib.hid (BW8.out.trans (hbk.mono BW8.out.size))
            by_cases hz : hs.length = 0
            · have z1 : ((hs.length : Int) == 0) = true := by simp [hz]
              go_wp2_with fail
              go_ret
              exact ⟨rfl, BWk.out⟩
            · have z1 : ((hs.length : Int) == 0) = false := beq_eq_false_iff_ne.2 (by omega)
              have hbd := HX.out.bd _ (List.getElem_mem hlt)
              have cx := cell_keep BWk.out (Nat.le_refl _) (HX.out.cell i hlt)
              have lcx := World.block_lt_of_cell? _ _ cx
              generalize xs[i] = xv at *
              have p1 := pick_lo xv hs.length (by omega); have p2 := pick_hi xv hs.length (by omega)
              have PK := Lib.hid (fun W => picked_any xv hs.length W hbd.1 hbd.2 (by omega) (by omega))
              clear hbd
              go_wp2_with fail
              refine (PK.out _).mono ?_; rintro e w_ ⟨rfl, rfl⟩
              obtain ⟨kk, hkk⟩ : ∃ kk : Nat, pick xv hs.length = kk := ⟨(pick xv hs.length).toNat, by omega⟩
              rw [hkk] at p1 p2 ⊢
              have hkl : kk < hs.length := by omega
              have hHc := fun j hj => HH.out _ hbk kk hkl j hj
              obtain ⟨dst, t0, t1, t2, hac⟩ := HA.out kk hkl
              have hbb := B8.out.trans (hbk.mono B8.out.size)
              have a3 := (hac _ hbb).2.2.2
              have HAC := Lib.hid (fun W hb => (hac W hb).2.2.2)
              have HBB := Lib.hid hbb
              clear hac hbb
              have h3 := hHc 3 (by omega); have h4 := hHc 4 (by omega); have h5 := hHc 5 (by omega)
              have hgr := HHR.out _ (List.getElem_mem hkl)
              generalize hs[kk] = h at *
              simp only [hopCells, List.getElem?_cons_zero, List.getElem?_cons_succ, ← Nat.add_assoc] at h3 h4 h5
              obtain ⟨tn, rfl⟩ : ∃ tn : Nat, dst = tn := ⟨dst.toNat, by omega⟩
              have lh := World.block_lt_of_cell? _ _ h3; have la := World.block_lt_of_cell? _ _ a3
              have kt := (T8.out.step hbk).cell; have ft8 := (T8.out.step hbk).froz; have lt8 := (T8.out.step hbk).lt
              have mk := cell_keep hbk (Nat.le_refl _) m8; have lmk := Nat.lt_of_lt_of_le lm8 hbk.size
              clear hHc cx lcx PK hkk
              go_upto_region 26 with fail
              have tle : wb.heap.size ≤ tb := by rw [HTB.out]; exact Nat.le_refl _
              have bW : Below wb.heap.size wb (((wr.setCell ⟨tb, 0, none⟩ (.int .i64 h.goes.a)).setCell ⟨tb, 1, none⟩ (.int .i64 h.goes.b)).setCell ⟨tb, 2, none⟩ (.int .i64 h.goes.f)) := ((HBB.out.setCell (p := ⟨tb, 0, none⟩) tle _).setCell (p := ⟨tb, 1, none⟩) tle _).setCell (p := ⟨tb, 2, none⟩) tle _
              have TW := ((((T8.out.step hbk).put 0 (.int .i64 h.goes.a)).put 1 (.int .i64 h.goes.b)).put 2 (.int .i64 h.goes.f)).eq (show _ = #[.int .i64 h.goes.a, .int .i64 h.goes.b, .int .i64 h.goes.f] by simp)
              have hsx : sx ≠ tb := fun e => by
                have e1 := Z8.out.step hbk; have e2 := T8.out.step hbk
                rw [e] at e1
                unfold Blk at e1 e2
                rw [e1] at e2; simp at e2
              have ZW := ((((Z8.out.step hbk).far (a := ⟨tb, 0, none⟩) hsx (.int .i64 h.goes.a)).far (a := ⟨tb, 1, none⟩) hsx (.int .i64 h.goes.b)).far (a := ⟨tb, 2, none⟩) hsx (.int .i64 h.goes.f))
              have HTW := Lib.hid TW; have HBW2 := Lib.hid bW
              clear h3 h4 h5 a3 lh la kt ft8 lt8 mk lmk kz lz tle
              generalize ((wr.setCell ⟨tb, 0, none⟩ (.int .i64 h.goes.a)).setCell ⟨tb, 1, none⟩ (.int .i64 h.goes.b)).setCell ⟨tb, 2, none⟩ (.int .i64 h.goes.f) = wz at *
              have kz := ZW.cell; have lz := ZW.lt
              have a3 := HAC.out wz bW
              have la := World.block_lt_of_cell? _ _ a3
              have Xz := X5.out.step bW
              have mk := Xz.blk.cell 1; have lmk := Xz.blk.lt
              simp only [List.getElem?_toArray, List.getElem?_cons_succ, List.getElem?_cons_zero] at mk
              have w1 : ¬ (↑tn : Int) < 0 := by omega
              have w2 : ¬ (c.states.length : Int) ≤ (↑tn : Int) := by omega
              clear TW bW ZW Xz
              go_wp2_with fail
              go_roundw
              case rel => exact ⟨tn, i + 1, h.goes, by go_num, by go_num, by omega, by omega, by simpa using t2, hgr, HTW.out, by have := HBW2.out; rw [HTB.out] at this; exact this⟩
              case measure => simp [intOf]; omega
      · have i2 : ¬ (i : Int) < 40 := by omega
        go_wp2_with fail
        go_ret
        exact ⟨rfl, HBW.out⟩
    · have i1 : ¬ (i : Int) < (xs.length : Int) := by omega
      go_wp2_with fail
      go_ret
      exact ⟨rfl, HBW.out⟩
end composeExpanded
end Go.Proofs.Ytfikkpgigicepaa
