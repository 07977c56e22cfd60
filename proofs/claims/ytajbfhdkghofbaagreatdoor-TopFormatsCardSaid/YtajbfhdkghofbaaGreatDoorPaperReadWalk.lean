/- paper.read: what a text reads as. -/
import Derived.Test.YtajbfhdkghofbaaGreatDoorReadMem
import Derived.Test.YtajbfhdkghofbaaGreatDoorNumbers
import Derived.Test.YtajbfhdkghofbaaGreatDoorLines
import Derived.Test.YtajbfhdkghofbaaGreatDoorRegionRound
namespace Go.Proofs.YtajbfhdkghofbaaGreatDoor
open Go.RowKit
attribute [local go_sem] Oper.semAt_some

theorem eltSt : Elt Tryz.prog 25 51 (.agg #[.int .i64 0, .slice none 0 0]) 2 32 := ⟨Tryz.underlying25, by kernel_rfl, rfl, by omega⟩
theorem eltAr : Elt Tryz.prog 49 54 (.agg #[.int .i64 0, .int .i64 0, .int .i64 0, .int .i64 0]) 4 32 := ⟨Tryz.underlying49, by kernel_rfl, rfl, by omega⟩
theorem own_some {w : World} {base e size n c : Nat} {A : Option Addr} {xs : List Value} (h : w.ownsRow base e size (.slice A n c) n xs) (hn : 0 < n) : ∃ g, A = some ⟨g, 0, none⟩ := by
  rcases h.2 with ⟨h1, h2⟩ | ⟨g, cap, cur, hv, -⟩
  · omega
  · exact ⟨g, by simpa using (by injection hv : A = some ⟨g, 0, none⟩)⟩
theorem beq_dec (a b : List UInt8) : (a == b) = decide (a = b) := by by_cases h : a = b <;> simp [h]
set_option maxRecDepth 100000 in
set_option maxHeartbeats 8000000 in
theorem read_any (sb : ByteArray) (hs : sb.size ≤ 20000) (w : World) (ht : TextW w) : Calls Tryz.prog 16 #[.string sb] w fun e w' => ∃ v m, e = .returned v ∧ ReadsTo ⟨-1, []⟩ (linesL sb.data.toList) m ∧ OwnMach w' w.heap.size v m ∧ (∀ s ∈ m.states, s.arcs.length ≤ 20000) ∧ Below w.heap.size w w' := by
  have HTW := Lib.hid ht
  have hsz : sb.size = sb.data.toList.length := Lib.size_eq sb
  have hlen : sb.data.toList.length ≤ 20000 := by omega
  clear ht hsz hs
  refine (callsIn_wide (n := 3)).1 ?_
  refine callsIn_of_wp_marks Tryz.func16 rfl trivial ?_ rfl
  simp only [Tryz.ntmps16, List.size_toArray, List.length_cons, List.length_nil, Nat.reduceAdd, Nat.reduceSub, Array.replicate_succ, Array.replicate_zero, List.push_toArray, List.append_toArray, List.nil_append, List.cons_append]
  gi_wp2_with (refine ⟨trivial, ?_⟩; gi_at_call 32; refine (callsIn_wide.2 (Lines_any sb _)).mono ?_; rintro e w' ⟨rfl, rfl⟩)
  have e9 : (⟨sb.data.toList.toArray⟩ : ByteArray) = sb := bytes_of rfl
  have hR0 : Blk (((w.alloc (.cells #[.int .i64 0, .slice none 0 0] 27)).alloc (.cells #[.int .i64 (-1), .slice none 0 0] 27)).alloc (.cells #[.string sb] 9)) w.heap.size #[.int .i64 0, .slice none 0 0] 27 := ((Blk.new w _ _).alloc _).alloc _
  have hB0 : Blk (((w.alloc (.cells #[.int .i64 0, .slice none 0 0] 27)).alloc (.cells #[.int .i64 (-1), .slice none 0 0] 27)).alloc (.cells #[.string sb] 9)) (w.heap.size + 1) #[.int .i64 (-1), .slice none 0 0] 27 := (Blk.new' (by simp)).alloc _
  have hbx : Boxed (((w.alloc (.cells #[.int .i64 0, .slice none 0 0] 27)).alloc (.cells #[.int .i64 (-1), .slice none 0 0] 27)).alloc (.cells #[.string sb] 9)) (w.heap.size + 2) 9 (.string ⟨sb.data.toList.toArray⟩) := by
    rw [e9]; exact Blk.new' (by simp)
  have hbel : Below w.heap.size w (((w.alloc (.cells #[.int .i64 0, .slice none 0 0] 27)).alloc (.cells #[.int .i64 (-1), .slice none 0 0] 27)).alloc (.cells #[.string sb] 9)) := (by repeat' (first | exact Below.refl _ _ | assumption | refine Below.drew ?_ | refine Below.alloc ?_ (by first | omega | (simp; done) | (simp; omega)) _ | refine Below.setCell ?_ (by first | omega | (simp; done) | (simp; omega)) _))
  have hs0 : (((w.alloc (.cells #[.int .i64 0, .slice none 0 0] 27)).alloc (.cells #[.int .i64 (-1), .slice none 0 0] 27)).alloc (.cells #[.string sb] 9)).heap.size = w.heap.size + 3 := by simp
  generalize ((w.alloc (.cells #[.int .i64 0, .slice none 0 0] 27)).alloc (.cells #[.int .i64 (-1), .slice none 0 0] 27)).alloc (.cells #[.string sb] 9) = w0 at *
  generalize hSL : sb.data.toList = s at *
  refine wpIn_lines (gf := 44) (T := 9) lines_run (enters_of Tryz.func44 (by kernel_rfl) rfl) 1 (w.heap.size + 2) s rfl hbx (by omega)
    (PReadX w w0 w.heap.size (w.heap.size + 1)) (fun _ _ => False) (pread_own w w0 _ _ _ (by omega) (by omega) (by omega) (Nat.le_refl _)) (fun c _ W W' row h _ _ => h.elim)
    ⟨-1, _, [], [], hR0, hB0, OwnStV.nil _ _, fun us av e => by simp at e, rfl, hbel, Nat.le_refl _, by simp, fun s h => by simp at h⟩ ?a1 ?assign ?body ?done ?stop
  case assign =>
    intro l x W K hK
    gi_wp2
    exact hK
  case body =>
    rintro l pre x rest W hx ⟨st, sv, vs, ss, HP0⟩
    have HP := Lib.hid HP0
    have hxl : x.length ≤ 20000 := by have := linesL_mem (s := s) (x := x) (by rw [hx]; simp); omega
    have hlc := linesL_count s
    have hpl : pre.length < 20000 := by rw [hx] at hlc; simp at hlc; omega
    have htl : (Lib.trimSuffix x [10]).length ≤ x.length := by unfold Lib.trimSuffix; split <;> simp
    have TS := Lib.hid (fun W => suffix_any ⟨x.toArray⟩ (by show x.length ≤ _; omega) W)
    have SP := Lib.hid (split_any ⟨(Lib.trimSuffix x [10]).toArray⟩ (by show (Lib.trimSuffix x [10]).length ≤ _; omega) W (HTW.out.below HP0.bel).max)
    have etl : (⟨x.toArray⟩ : ByteArray).data.toList = x := rfl
    rw [etl] at TS
    have etl : (⟨(Lib.trimSuffix x [10]).toArray⟩ : ByteArray).data.toList = Lib.trimSuffix x [10] := rfl
    rw [etl] at SP
    have HWO : Hid (∀ ws, ws = Lib.split (Lib.trimSuffix x [10]) [32] → wordsOf x = ws) := Lib.hid (fun ws e => e.symm)
    have HWL : Hid (∀ y ∈ wordsOf x, y.length ≤ 20000) := Lib.hid (fun y hy => by have := words_len x y hy; omega)
    have hMB := HP0.box
    have HSNOC := Lib.hid (fun m' (h : StepR x ⟨st, ss⟩ m') => HP0.rd.snoc h)
    have htx : (Lib.trimSuffix x [10]).length ≤ 20000 := by omega
    clear hx hlc etl htl HP0
    generalize Lib.trimSuffix x [10] = tx at *
    gi_wp2
    refine ⟨trivial, ?_⟩
    refine (CallsIn.inRound l (callsIn_wide.2 (TS.out _))).mono ?_; rintro e W' ⟨rfl, rfl⟩
    gi_wp2
    refine ⟨trivial, ?_⟩
    refine (CallsIn.inRound l (callsIn_wide.2 SP.out)).mono ?_; rintro e W1 ⟨ws, hws, hw0, hw1, rfl, rfl⟩
    have hw2 : ws.length ≤ 20001 := by have h1 : ws.length ≤ tx.length + 1 := hw1; omega
    clear hw1
    have HWS := Lib.hid (HWO.out ws hws)
    have HBW := Lib.hid (Blk.new W' (ws.map fun x => Value.string ⟨x.toArray⟩).toArray 9)
    have b1 : Below W'.heap.size W' (W'.alloc (.cells (ws.map fun x => Value.string ⟨x.toArray⟩).toArray 9)) := (Below.refl _ _).alloc (Nat.le_refl _) _
    have i1 : (1 : Int) ≤ (ws.length : Int) := by omega
    clear hws HWO SP TS
    generalize W'.alloc (.cells (ws.map fun x => Value.string ⟨x.toArray⟩).toArray 9) = W1 at *
    have hdl : (ws.drop 1).length = ws.length - 1 := by simp
    have bel1 := HP.out.bel.trans (b1.mono HP.out.bel.size)
    have NB : ∀ (A1 : Option Addr) (c : Nat), (A1 = some ⟨W'.heap.size, 1, none⟩ ∨ ws.length = 1) → Calls Tryz.prog 35 #[.slice A1 (ws.length - 1) c] W1 fun e w' => ∃ v ns, e = .returned v ∧ NumsOf (ws.drop 1) ns ∧ w'.ownsRow W1.heap.size 3 1 v ns.length (numC ns) ∧ Below W1.heap.size W1 w' := fun A1 c hA => by
      rw [← hdl]
      refine numbers_any A1 (ws.drop 1) c W1 ⟨?_, fun i hi => ?_⟩ (fun y hy => by have := HWL.out y (by rw [HWS.out]; exact List.mem_of_mem_drop hy); omega) (by omega) (HTW.out.below bel1)
      · rcases hA with rfl | h
        · intro _; exact rfl
        · rw [hdl, h]; exact rdy_zero _
      · rcases hA with rfl | h
        · show W1.cell? ⟨W'.heap.size, 1 + i, none⟩ = _
          rw [HBW.out.cell]
          simp only [List.length_drop] at hi
          simp [Nat.add_comm 1 i, List.getElem?_eq_getElem (show i + 1 < ws.length by omega)]
        · simp only [List.length_drop] at hi; omega
    have HNB := Lib.hid NB; clear NB
    have W0C : Hid (W1.cell? ⟨W'.heap.size, 0, none⟩ = some (.string ⟨(ws.getD 0 []).toArray⟩)) := Lib.hid (by
      rw [HBW.out.cell]; simp [List.getD_eq_getElem?_getD, List.getElem?_eq_getElem hw0])
    have W1C : Hid (2 ≤ ws.length → W1.cell? ⟨W'.heap.size, 1, none⟩ = some (.string ⟨(ws.getD 1 []).toArray⟩)) := Lib.hid (fun h => by
      rw [HBW.out.cell]; simp [List.getD_eq_getElem?_getD, List.getElem?_eq_getElem (show 1 < ws.length by omega)])
    have HL0 : Hid (NumsOf (ws.drop 1) = NumsOf ((wordsOf x).drop 1)) := Lib.hid (by rw [HWS.out])
    have HDL := Lib.hid hdl
    have HY0 : Hid ((wordsOf x).getD 0 [] = ws.getD 0 []) := Lib.hid (by rw [HWS.out])
    have HY1 : Hid ((wordsOf x).getD 1 [] = ws.getD 1 [] ∧ (ws.getD 1 []).length ≤ 20000) := Lib.hid ⟨by rw [HWS.out], by
      rw [List.getD_eq_getElem?_getD]
      cases h : ws[1]? with
      | none => simp
      | some y => exact HWL.out y (by rw [HWS.out]; exact List.mem_of_getElem? h)⟩
    have BE1 := Lib.hid bel1
    clear hdl HBW HWL HWS bel1
    generalize hD1 : NumsOf (ws.drop 1) = ND at *
    have HD1 := Lib.hid hD1; clear hD1
    generalize ws.getD 0 [] = y0 at *
    generalize ws.getD 1 [] = y1 at *
    have HND : Hid (∀ ns, ND ns → ns.length = ws.length - 1) := Lib.hid (fun ns h => by rw [← HD1.out] at h; rw [h.1, HDL.out])
    generalize hwl : ws.length = L at *
    clear hwl HD1 HDL
    have hz1 := b1.size
    have LEAF : ∀ (v2 : Value) (ns : List Int) (W2 : World), ND ns → Below W1.heap.size W1 W2 →
        (StepR x ⟨st, ss⟩ ⟨st, ss⟩ → KeepsFrom w0.heap.size W' W2 ∧ W2.heap[w.heap.size + 2]? = W'.heap[w.heap.size + 2]? ∧ PReadX w w0 w.heap.size (w.heap.size + 1) (pre ++ [x]) W2) ∧
        NumsOf ((wordsOf x).drop 1) ns ∧ Below W'.heap.size W' W2 := fun v2 ns W2 hN b2 => by
      have b12 := b1.trans (b2.mono b1.size)
      refine ⟨fun h => ⟨keepsFrom_below b12, b12.block _ (by have := HP.out.size; omega), _, _, _, _, HP.out.step b12 (HSNOC.out _ h)⟩, by rw [← HL0.out]; exact hN, b12⟩
    have HLEAF := Lib.hid LEAF; clear LEAF
    have e1 : (y0 == [115, 116, 97, 114, 116]) = decide (y0 = wStart) := beq_dec _ _
    have e2 : (y0 == [115, 116, 97, 116, 101]) = decide (y0 = wState) := beq_dec _ _
    have e3 : (y0 == [97, 114, 99]) = decide (y0 = wArc) := beq_dec _ _
    have hcase : (decide (y0 = wStart) = true ∧ decide (y0 = wState) = false ∧ decide (y0 = wArc) = false) ∨ (decide (y0 = wStart) = false ∧ decide (y0 = wState) = true ∧ decide (y0 = wArc) = false) ∨ (decide (y0 = wStart) = false ∧ decide (y0 = wState) = false ∧ decide (y0 = wArc) = true) ∨ (decide (y0 = wStart) = false ∧ decide (y0 = wState) = false ∧ decide (y0 = wArc) = false) := by
      by_cases h1 : y0 = wStart
      · left; subst h1; decide
      · by_cases h2 : y0 = wState
        · right; left; subst h2; decide
        · by_cases h3 : y0 = wArc
          · right; right; left; subst h3; decide
          · right; right; right; simp [h1, h2, h3]
    have HC := Lib.hid hcase; clear hcase
    by_cases hL : L = 1
    · subst hL
      gi_wp2
      refine ⟨trivial, ?_⟩
      refine (CallsIn.inRound l (callsIn_wide.2 (HNB.out (some ⟨W'.heap.size, 0, none⟩) 0 (.inr (by first | trivial | rfl))))).mono ?_
      rintro e W2 ⟨v2, ns, rfl, hN, hO, b2⟩
      obtain ⟨A2, c2, rfl, -, -⟩ := own_form hO
      obtain ⟨hstep, hnums, b12⟩ := HLEAF.out (.int .i64 0) ns W2 hN b2
      have HSK := Lib.hid hstep; have HNU := Lib.hid hnums; have HB12 := Lib.hid b12
      have n0 : W2.cell? ⟨W'.heap.size, 0, none⟩ = some (.string ⟨y0.toArray⟩) := cell_keep b2 (Nat.le_refl _) W0C.out
      have hlw : W'.heap.size < W2.heap.size := World.block_lt_of_cell? _ _ n0
      have HNL := Lib.hid (HND.out ns hN)
      have n1 := Lib.hid (fun h => cell_keep b2 (Nat.le_refl _) (W1C.out h))
      have HP2 := Lib.hid (HP.out.keep b12)
      have HTW2 := Lib.hid (HTW.out.below HP2.out.bel)
      have HCE := Lib.hid (fun k hk => rdi_cell (Rd.of_own hO) k hk)
      have rdN := (Rd.of_own hO).rdy
      have HO := Lib.hid hO
      clear hN hO b2 hstep hnums b12 HNB HND HLEAF
      have hMB2 := HP2.out.box
      have k0 := hMB2.cell 0; have k1 := hMB2.cell 1; have kf0 := hMB2.froz 0; have kf1 := hMB2.froz 1; have kl := hMB2.lt
      clear hMB hMB2
      rcases HC.out with ⟨q1, q2, q3⟩ | ⟨q1, q2, q3⟩ | ⟨q1, q2, q3⟩ | ⟨q1, q2, q3⟩
      · rw [q1] at e1; rw [q2] at e2; rw [q3] at e3
        have hq : (wordsOf x).getD 0 [] = wStart := by rw [HY0.out]; simpa using q1
        have HQ := Lib.hid hq; have HQ1 := Lib.hid q1; have HQ2 := Lib.hid q2; have HQ3 := Lib.hid q3
        clear q1 q2 q3 hq HC
        by_cases c1 : ns.length = 1
        · have hc1 : ((ns.length : Int) == 1) = true := by rw [c1]; rfl
          obtain ⟨g2, rfl⟩ := own_some HO.out (by omega)
          have m0 : W2.cell? ⟨g2, 0, none⟩ = some (.int .i64 (ns[0]'(by omega))) := HCE.out 0 (by omega)
          have hl2 := World.block_lt_of_cell? _ _ m0
          have HST := Lib.hid (HSNOC.out _ (stepR_start HNU.out ⟨HQ.out, c1⟩))
          have hgd : ns.getD 0 0 = ns[0] := getD_at (by omega)
          rw [hgd] at HST
          generalize ns[0] = z at *
          have i2 : (0 : Int) < (ns.length : Int) := by omega
          clear c1 hgd
          gi_wp2
          exact ⟨(keepsFrom_below HB12.out).trans ((KeepsOthers.setCell _ _ _).from _), (Below.heap_setCell _ _ _ _ (show w.heap.size + 2 ≠ w.heap.size + 1 by omega)).trans (HB12.out.block _ (by have := HP.out.size; omega)), _, _, _, _, HP2.out.start (by omega) (by omega) (Nat.le_refl _) (by simp) HST.out⟩
        · have hc1 : ((ns.length : Int) == 1) = false := by simp; omega
          have HS := Lib.hid (stepR_skip (m := ⟨st, ss⟩) HNU.out (fun h => c1 h.2) (fun h => absurd (HQ.out.symm.trans h.1) (by decide)) (fun h => absurd (HQ.out.symm.trans h.1) (by decide)))
          gi_wp2
          exact HSK.out HS.out
      · rw [q1] at e1; rw [q2] at e2; rw [q3] at e3
        have hq : (wordsOf x).getD 0 [] = wState := by rw [HY0.out]; simpa using q2
        have HQ := Lib.hid hq; have HQ1 := Lib.hid q1; have HQ2 := Lib.hid q2; have HQ3 := Lib.hid q3
        clear q1 q2 q3 hq HC
        by_cases c1 : ns.length = 1
        · exfalso; have := HNL.out; omega
        · have hc1 : ((ns.length : Int) == 1) = false := by simp; omega
          have HS := Lib.hid (stepR_skip (m := ⟨st, ss⟩) HNU.out (fun h => c1 h.2) (fun h => c1 h.2) (fun h => absurd (HQ.out.symm.trans h.1) (by decide)))
          gi_wp2
          exact HSK.out HS.out
      · rw [q1] at e1; rw [q2] at e2; rw [q3] at e3
        have hq : (wordsOf x).getD 0 [] = wArc := by rw [HY0.out]; simpa using q3
        have HQ := Lib.hid hq; have HQ1 := Lib.hid q1; have HQ2 := Lib.hid q2; have HQ3 := Lib.hid q3
        clear q1 q2 q3 hq HC
        by_cases c1 : ns.length = 4
        · exfalso; have := HNL.out; omega
        · have hc1 : ((ns.length : Int) == 4) = false := by simp; omega
          have HS := Lib.hid (stepR_skip (m := ⟨st, ss⟩) HNU.out (fun h => absurd (HQ.out.symm.trans h.1) (by decide)) (fun h => absurd (HQ.out.symm.trans h.1) (by decide)) (fun h => c1 h.2.1))
          gi_wp2
          exact HSK.out HS.out
      · rw [q1] at e1; rw [q2] at e2; rw [q3] at e3
        have HS := Lib.hid (stepR_skip (m := ⟨st, ss⟩) HNU.out (fun h => by rw [HY0.out] at h; simp [h.1] at q1) (fun h => by rw [HY0.out] at h; simp [h.1] at q2) (fun h => by rw [HY0.out] at h; simp [h.1] at q3))
        have HQ1 := Lib.hid q1; have HQ2 := Lib.hid q2; have HQ3 := Lib.hid q3
        clear q1 q2 q3 HC
        gi_wp2
        exact HSK.out HS.out
    · skip
      gi_wp2
      refine ⟨trivial, ?_⟩
      refine (CallsIn.inRound l (callsIn_wide.2 (HNB.out (some ⟨W'.heap.size, 1, none⟩) (L - 1) (.inl rfl)))).mono ?_
      rintro e W2 ⟨v2, ns, rfl, hN, hO, b2⟩
      obtain ⟨A2, c2, rfl, -, -⟩ := own_form hO
      obtain ⟨hstep, hnums, b12⟩ := HLEAF.out (.int .i64 0) ns W2 hN b2
      have HSK := Lib.hid hstep; have HNU := Lib.hid hnums; have HB12 := Lib.hid b12
      have n0 : W2.cell? ⟨W'.heap.size, 0, none⟩ = some (.string ⟨y0.toArray⟩) := cell_keep b2 (Nat.le_refl _) W0C.out
      have hlw : W'.heap.size < W2.heap.size := World.block_lt_of_cell? _ _ n0
      have HNL := Lib.hid (HND.out ns hN)
      have n1 := Lib.hid (fun h => cell_keep b2 (Nat.le_refl _) (W1C.out h))
      have HP2 := Lib.hid (HP.out.keep b12)
      have HTW2 := Lib.hid (HTW.out.below HP2.out.bel)
      have HCE := Lib.hid (fun k hk => rdi_cell (Rd.of_own hO) k hk)
      have rdN := (Rd.of_own hO).rdy
      have HO := Lib.hid hO
      clear hN hO b2 hstep hnums b12 HNB HND HLEAF
      have hMB2 := HP2.out.box
      have k0 := hMB2.cell 0; have k1 := hMB2.cell 1; have kf0 := hMB2.froz 0; have kf1 := hMB2.froz 1; have kl := hMB2.lt
      clear hMB hMB2
      rcases HC.out with ⟨q1, q2, q3⟩ | ⟨q1, q2, q3⟩ | ⟨q1, q2, q3⟩ | ⟨q1, q2, q3⟩
      · rw [q1] at e1; rw [q2] at e2; rw [q3] at e3
        have hq : (wordsOf x).getD 0 [] = wStart := by rw [HY0.out]; simpa using q1
        have HQ := Lib.hid hq; have HQ1 := Lib.hid q1; have HQ2 := Lib.hid q2; have HQ3 := Lib.hid q3
        clear q1 q2 q3 hq HC
        by_cases c1 : ns.length = 1
        · have hc1 : ((ns.length : Int) == 1) = true := by rw [c1]; rfl
          obtain ⟨g2, rfl⟩ := own_some HO.out (by omega)
          have m0 : W2.cell? ⟨g2, 0, none⟩ = some (.int .i64 (ns[0]'(by omega))) := HCE.out 0 (by omega)
          have hl2 := World.block_lt_of_cell? _ _ m0
          have HST := Lib.hid (HSNOC.out _ (stepR_start HNU.out ⟨HQ.out, c1⟩))
          have hgd : ns.getD 0 0 = ns[0] := getD_at (by omega)
          rw [hgd] at HST
          generalize ns[0] = z at *
          have i2 : (0 : Int) < (ns.length : Int) := by omega
          clear c1 hgd
          gi_wp2
          exact ⟨(keepsFrom_below HB12.out).trans ((KeepsOthers.setCell _ _ _).from _), (Below.heap_setCell _ _ _ _ (show w.heap.size + 2 ≠ w.heap.size + 1 by omega)).trans (HB12.out.block _ (by have := HP.out.size; omega)), _, _, _, _, HP2.out.start (by omega) (by omega) (Nat.le_refl _) (by simp) HST.out⟩
        · have hc1 : ((ns.length : Int) == 1) = false := by simp; omega
          have HS := Lib.hid (stepR_skip (m := ⟨st, ss⟩) HNU.out (fun h => c1 h.2) (fun h => absurd (HQ.out.symm.trans h.1) (by decide)) (fun h => absurd (HQ.out.symm.trans h.1) (by decide)))
          gi_wp2
          exact HSK.out HS.out
      · rw [q1] at e1; rw [q2] at e2; rw [q3] at e3
        have hq : (wordsOf x).getD 0 [] = wState := by rw [HY0.out]; simpa using q2
        have HQ := Lib.hid hq; have HQ1 := Lib.hid q1; have HQ2 := Lib.hid q2; have HQ3 := Lib.hid q3
        clear q1 q2 q3 hq HC
        by_cases c1 : ns.length = 1
        · have h2L : 2 ≤ L := by have := HNL.out; omega
          have i3 : (1 : Int) < (L : Int) := by omega
          have hc1 : ((ns.length : Int) == 1) = true := by rw [c1]; rfl
          have w1 := n1.out h2L
          have HST := Lib.hid (fun v er hr => HSNOC.out _ (stepR_state (m := ⟨st, ss⟩) (v := v) (er := er) HNU.out ⟨HQ.out, c1⟩ (by rw [HY1.out.1]; exact hr)))
          have RD := Lib.hid (Read_any ⟨y1.toArray⟩ (by show y1.length ≤ _; have := HY1.out.2; omega) W2)
          have etl : (⟨y1.toArray⟩ : ByteArray).data.toList = y1 := rfl
          rw [etl] at RD
          clear c1 etl
          gi_wp2
          refine ⟨trivial, ?_⟩
          refine (CallsIn.inRound l (callsIn_wide.2 RD.out)).mono ?_; rintro e W3 ⟨v, er, rfl, hR, b3⟩
          have HP3 := Lib.hid (HP2.out.keep b3)
          have hR3 := Lib.hid (HST.out v er hR)
          have B3 := Lib.hid (HB12.out.trans (b3.mono HB12.out.size))
          have hMB := HP3.out.box
          have k0 := hMB.cell 0; have k1 := hMB.cell 1; have kf0 := hMB.froz 0; have kf1 := hMB.froz 1; have kl := hMB.lt
          clear hMB b3 hR HST RD w1 n0
          obtain ⟨i0', hi, hz0, hz1, hz2⟩ := info_parts eltSt.info
          have hzs := HP3.out.size
          have hss := HP3.out.len
          have HOW := Lib.hid HP3.out.own.row
          obtain ⟨A5, c5, hsv, -, -⟩ := own_form HOW.out
          subst hsv
          gi_wp2_with (gi_at_builtin; refine wpListIn_append_own _ rfl _ _ 25 rfl w0.heap.size 51 i0' (.agg #[.int .i64 0, .slice none 0 0]) 2 32 Tryz.underlying25 hi hz0 hz1 hz2 rfl (by decide) _ _ _ rfl (HOW.out.alloc _) ⟨W3.heap.size, 0, none⟩ 1 1 [.int .i64 v, .slice none 0 0] rfl rfl (World.news_of_block (heap_alloc_new W3 _)) (by simp [Value.oneCell']) (by unfold maxLen; omega) (by omega) (by simp; omega) ?_; intro v' w3 hown' hgrow _; obtain ⟨g', cap', rfl⟩ := ownsRow_succ hown'; have hfar := Lib.hid (HP3.out.far (by omega) (by omega) hgrow); have z1 := hfar.out.2.1.cell 1; have zf := hfar.out.2.1.froz 1; have zl := hfar.out.2.1.lt; have LV := Lib.hid (HP3.out.push (by omega) (show w.heap.size + 1 < w.heap.size + 2 by omega) (by omega) (Nat.le_refl _) hgrow hown' (show pre.length < (pre ++ [x]).length by simp) hR3.out); clear hgrow hown' hfar)
          obtain ⟨q7, q8, q9⟩ := LV.out
          exact ⟨(keepsFrom_below B3.out).trans q8, q9.trans (B3.out.block _ (by have := HP.out.size; omega)), _, _, _, _, q7⟩
        · have hc1 : ((ns.length : Int) == 1) = false := by simp; omega
          have HS := Lib.hid (stepR_skip (m := ⟨st, ss⟩) HNU.out (fun h => c1 h.2) (fun h => c1 h.2) (fun h => absurd (HQ.out.symm.trans h.1) (by decide)))
          gi_wp2
          exact HSK.out HS.out
      · rw [q1] at e1; rw [q2] at e2; rw [q3] at e3
        have hq : (wordsOf x).getD 0 [] = wArc := by rw [HY0.out]; simpa using q3
        have HQ := Lib.hid hq; have HQ1 := Lib.hid q1; have HQ2 := Lib.hid q2; have HQ3 := Lib.hid q3
        clear q1 q2 q3 hq HC
        by_cases c1 : ns.length = 4
        · have hc1 : ((ns.length : Int) == 4) = true := by rw [c1]; rfl
          by_cases c3 : 0 < ss.length
          · obtain ⟨ss', sx, us, g, cg, A6, c6, rfl, rfl, rfl, cA, fA, hown, hgb⟩ := HP2.out.last c3
            obtain ⟨g2, rfl⟩ := own_some HO.out (by omega)
            have hl3 : (ss' ++ [sx]).length = ss'.length + 1 := by simp
            have HST := Lib.hid (HSNOC.out _ (stepR_arc (m := ⟨st, ss' ++ [sx]⟩) HNU.out ⟨HQ.out, c1, c3⟩))
            rw [show addArc (ss' ++ [sx]) ⟨ns.getD 1 0, ns.getD 2 0, ns.getD 3 0, ns.getD 0 0⟩ = ss' ++ [⟨sx.final, sx.arcs ++ [⟨ns.getD 1 0, ns.getD 2 0, ns.getD 3 0, ns.getD 0 0⟩]⟩] from addArc_snoc _ _ _] at HST
            rw [getD_at (l := ns) (i := 0) (by omega), getD_at (l := ns) (i := 1) (by omega), getD_at (l := ns) (i := 2) (by omega), getD_at (l := ns) (i := 3) (by omega)] at HST
            have m0 : W2.cell? ⟨g2, 0, none⟩ = some (.int .i64 (ns[0]'(by omega))) := HCE.out 0 (by omega)
            have m1 : W2.cell? ⟨g2, 1, none⟩ = some (.int .i64 (ns[1]'(by omega))) := by have := HCE.out 1 (by omega); simpa [blk_some, ofs_some] using this
            have m2 : W2.cell? ⟨g2, 2, none⟩ = some (.int .i64 (ns[2]'(by omega))) := by have := HCE.out 2 (by omega); simpa [blk_some, ofs_some] using this
            have m3 : W2.cell? ⟨g2, 3, none⟩ = some (.int .i64 (ns[3]'(by omega))) := by have := HCE.out 3 (by omega); simpa [blk_some, ofs_some] using this
            have hss := HP2.out.len; have hal := HP2.out.alen sx (by simp)
            have HOI := Lib.hid HO.out
            generalize ns[0] = z0 at *
            generalize ns[1] = z1 at *
            generalize ns[2] = z2 at *
            generalize ns[3] = z3 at *
            have i4 : (0 : Int) < (ss'.length : Int) + 1 := by omega
            rw [c1] at *
            have HOWN := Lib.hid hown
            clear c1 c3 hown HCE HNL HSK n1 rdN
            gi_wp2
            have HP5 := Lib.hid HP2.out.drew; have B5 := Lib.hid HB12.out.drew
            have hdr : Below W2.heap.size W2 W2.drew := (Below.refl _ _).drew
            have HOWN5 := Lib.hid (own_below HOWN.out hdr (Nat.le_refl _)); have HOI5 := Lib.hid (own_below HOI.out hdr (Nat.le_refl _))
            have S5 : W2.drew.cell? ⟨g, ss'.length * 2 + 1, none⟩ = some (.slice A6 sx.arcs.length c6) ∧ W2.drew.cell? ⟨g2, 0, none⟩ = some (.int .i64 z0) ∧ W2.drew.cell? ⟨g2, 1, none⟩ = some (.int .i64 z1) ∧ W2.drew.cell? ⟨g2, 2, none⟩ = some (.int .i64 z2) ∧ W2.drew.cell? ⟨g2, 3, none⟩ = some (.int .i64 z3) := ⟨cA, m0, m1, m2, m3⟩
            have fA5 : W2.drew.frozen? ⟨g, ss'.length * 2 + 1, none⟩ = false := fA
            refine region_round (by kernel_rfl) (by kernel_rfl) ?_
            clear cA fA m0 m1 m2 m3 k0 k1 kf0 kf1 kl n0 HP2 HB12 HOI HOWN hdr
            generalize W2.drew = W5 at *
            have HS5 := Lib.hid S5
            have hz5 := HP5.out.size
            refine any_last_drew3 (fun W => W.cell? ⟨g, ss'.length * 2 + 1, none⟩ = some (.slice A6 sx.arcs.length c6) ∧ W.cell? ⟨g2, 0, none⟩ = some (.int .i64 z0) ∧ W.cell? ⟨g2, 1, none⟩ = some (.int .i64 z1) ∧ W.cell? ⟨g2, 2, none⟩ = some (.int .i64 z2) ∧ W.cell? ⟨g2, 3, none⟩ = some (.int .i64 z3)) (by simp only [List.back?_toArray, List.getLast?_cons_cons, List.getLast?_singleton]; rfl) (by simp only [List.pop_toArray, List.dropLast_cons_cons, List.dropLast_singleton]; rfl) (by kernel_rfl) S5 (fun hHeld => ?_)
            clear S5
            refine wpAnyH_take (i := 0) (v := ?v0) (by simp only [List.getElem?_toArray, List.getElem?_cons_zero]; rfl) (by kernel_rfl) (by kernel_rfl) (by kernel_rfl) (fun _ _ _ h => h) (Or.inl ⟨by rfl, ?h0⟩) hHeld ?r0
            case h0 => intro w hSw; (try dsimp only at hSw); go_simp; with_reducible rfl
            simp only [Act.put, List.setIfInBounds_toArray, List.set_cons_zero, List.set_cons_succ]
            refine wpAnyH_take (i := 1) (v := ?v1) (by simp only [List.getElem?_toArray, List.getElem?_cons_succ, List.getElem?_cons_zero]; rfl) (by kernel_rfl) (by kernel_rfl) (by kernel_rfl) (fun _ _ _ h => h) (Or.inl ⟨by rfl, ?h1⟩) hHeld ?r1
            case h1 => intro w hSw; (try dsimp only at hSw); go_simp; with_reducible rfl
            simp only [Act.put, List.setIfInBounds_toArray, List.set_cons_zero, List.set_cons_succ]
            refine wpAnyH_take (i := 2) (v := ?v2) (by simp only [List.getElem?_toArray, List.getElem?_cons_succ, List.getElem?_cons_zero]; rfl) (by kernel_rfl) (by kernel_rfl) (by kernel_rfl) (fun _ _ _ h => h) (Or.inl ⟨by rfl, ?h2⟩) hHeld ?r2
            case h2 => intro w hSw; (try dsimp only at hSw); go_simp; with_reducible rfl
            simp only [Act.put, List.setIfInBounds_toArray, List.set_cons_zero, List.set_cons_succ]
            refine wpAnyH_take (i := 3) (v := ?v3) (by simp only [List.getElem?_toArray, List.getElem?_cons_succ, List.getElem?_cons_zero]; rfl) (by kernel_rfl) (by kernel_rfl) (by kernel_rfl) (fun _ _ _ h => h) (Or.inl ⟨by rfl, ?h3⟩) hHeld ?r3
            case h3 => intro w hSw; (try dsimp only at hSw); go_simp; with_reducible rfl
            simp only [Act.put, List.setIfInBounds_toArray, List.set_cons_zero, List.set_cons_succ]
            refine wpAnyH_take (i := 4) (v := ?v4) (by simp only [List.getElem?_toArray, List.getElem?_cons_succ, List.getElem?_cons_zero]; rfl) (by kernel_rfl) (by kernel_rfl) (by kernel_rfl) (fun _ _ _ h => h) (Or.inl ⟨by rfl, ?h4⟩) hHeld ?r4
            case h4 => intro w hSw; (try dsimp only at hSw); go_simp; with_reducible rfl
            simp only [Act.put, List.setIfInBounds_toArray, List.set_cons_zero, List.set_cons_succ]
            refine wpAnyH_take (i := 5) (v := ?v5) (by simp only [List.getElem?_toArray, List.getElem?_cons_succ, List.getElem?_cons_zero]; rfl) (by kernel_rfl) (by kernel_rfl) (by kernel_rfl) (fun _ _ _ h => h) (Or.inl ⟨by rfl, ?h5⟩) hHeld ?r5
            case h5 => intro w hSw; (try dsimp only at hSw); go_simp; with_reducible rfl
            simp only [Act.put, List.setIfInBounds_toArray, List.set_cons_zero, List.set_cons_succ]
            refine wpAnyH_take (i := 6) (v := ?v6) (by simp only [List.getElem?_toArray, List.getElem?_cons_succ, List.getElem?_cons_zero]; rfl) (by kernel_rfl) (by kernel_rfl) (by kernel_rfl) (fun _ _ _ h => h) (Or.inl ⟨by rfl, ?h6⟩) hHeld ?r6
            case h6 => intro w hSw; (try dsimp only at hSw); go_simp; with_reducible rfl
            simp only [Act.put, List.setIfInBounds_toArray, List.set_cons_zero, List.set_cons_succ]
            refine wpAnyH_take (i := 7) (v := ?v7) (by simp only [List.getElem?_toArray, List.getElem?_cons_succ, List.getElem?_cons_zero]; rfl) (by kernel_rfl) (by kernel_rfl) (by kernel_rfl) (fun _ _ _ h => h) (Or.inl ⟨by rfl, ?h7⟩) hHeld ?r7
            case h7 => intro w hSw; (try dsimp only at hSw); go_simp; with_reducible rfl
            simp only [Act.put, List.setIfInBounds_toArray, List.set_cons_zero, List.set_cons_succ]
            refine wpAnyH_take (i := 8) (v := ?v8) (by simp only [List.getElem?_toArray, List.getElem?_cons_succ, List.getElem?_cons_zero]; rfl) (by kernel_rfl) (by kernel_rfl) (by kernel_rfl) (fun _ _ _ h => h) (Or.inl ⟨by rfl, ?h8⟩) hHeld ?r8
            case h8 => intro w hSw; (try dsimp only at hSw); go_simp; with_reducible rfl
            simp only [Act.put, List.setIfInBounds_toArray, List.set_cons_zero, List.set_cons_succ]
            refine wpAnyH_take (i := 9) (v := ?v9) (by simp only [List.getElem?_toArray, List.getElem?_cons_succ, List.getElem?_cons_zero]; rfl) (by kernel_rfl) (by kernel_rfl) (by kernel_rfl) (fun _ _ _ h => h) (Or.inl ⟨by rfl, ?h9⟩) hHeld ?r9
            case h9 => intro w hSw; (try dsimp only at hSw); go_simp; with_reducible rfl
            simp only [Act.put, List.setIfInBounds_toArray, List.set_cons_zero, List.set_cons_succ]
            refine wpAnyH_take (i := 10) (v := ?v10) (by simp only [List.getElem?_toArray, List.getElem?_cons_succ, List.getElem?_cons_zero]; rfl) (by kernel_rfl) (by kernel_rfl) (by kernel_rfl) (fun _ _ _ h => h) (Or.inl ⟨by rfl, ?h10⟩) hHeld ?r10
            case h10 => intro w hSw; (try dsimp only at hSw); go_simp; with_reducible rfl
            simp only [Act.put, List.setIfInBounds_toArray, List.set_cons_zero, List.set_cons_succ]
            refine wpAnyH_take (i := 11) (v := ?v11) (by simp only [List.getElem?_toArray, List.getElem?_cons_succ, List.getElem?_cons_zero]; rfl) (by kernel_rfl) (by kernel_rfl) (by kernel_rfl) (fun _ _ _ h => h) (Or.inl ⟨by rfl, ?h11⟩) hHeld ?r11
            case h11 => intro w hSw; (try dsimp only at hSw); go_simp; with_reducible rfl
            simp only [Act.put, List.setIfInBounds_toArray, List.set_cons_zero, List.set_cons_succ]
            refine wpAnyH_take (i := 12) (v := ?v12) (by simp only [List.getElem?_toArray, List.getElem?_cons_succ, List.getElem?_cons_zero]; rfl) (by kernel_rfl) (by kernel_rfl) (by kernel_rfl) (fun _ _ _ h => h) (Or.inl ⟨by rfl, ?h12⟩) hHeld ?r12
            case h12 => intro w hSw; (try dsimp only at hSw); go_simp; with_reducible rfl
            simp only [Act.put, List.setIfInBounds_toArray, List.set_cons_zero, List.set_cons_succ]
            refine wpAnyH_take (i := 13) (v := ?v13) (by simp only [List.getElem?_toArray, List.getElem?_cons_succ, List.getElem?_cons_zero]; rfl) (by kernel_rfl) (by kernel_rfl) (by kernel_rfl) (fun _ _ _ h => h) (Or.inl ⟨by rfl, ?h13⟩) hHeld ?r13
            case h13 => intro w hSw; (try dsimp only at hSw); go_simp; with_reducible rfl
            simp only [Act.put, List.setIfInBounds_toArray, List.set_cons_zero, List.set_cons_succ]
            refine wpAnyH_take (i := 14) (v := ?v14) (by simp only [List.getElem?_toArray, List.getElem?_cons_succ, List.getElem?_cons_zero]; rfl) (by kernel_rfl) (by kernel_rfl) (by kernel_rfl) (fun _ _ _ h => h) (Or.inl ⟨by rfl, ?h14⟩) hHeld ?r14
            case h14 => intro w hSw; (try dsimp only at hSw); go_simp; with_reducible rfl
            simp only [Act.put, List.setIfInBounds_toArray, List.set_cons_zero, List.set_cons_succ]
            refine wpAnyH_take (i := 15) (v := ?v15) (by simp only [List.getElem?_toArray, List.getElem?_cons_succ, List.getElem?_cons_zero]; rfl) (by kernel_rfl) (by kernel_rfl) (by kernel_rfl) (fun _ _ _ h => h) (Or.inl ⟨by rfl, ?h15⟩) hHeld ?r15
            case h15 => intro w hSw; (try dsimp only at hSw); go_simp; with_reducible rfl
            simp only [Act.put, List.setIfInBounds_toArray, List.set_cons_zero, List.set_cons_succ]
            refine wpAnyH_take (i := 16) (v := ?v16) (by simp only [List.getElem?_toArray, List.getElem?_cons_succ, List.getElem?_cons_zero]; rfl) (by kernel_rfl) (by kernel_rfl) (by kernel_rfl) (fun _ _ _ h => h) (Or.inl ⟨by rfl, ?h16⟩) hHeld ?r16
            case h16 => intro w hSw; (try dsimp only at hSw); go_simp; with_reducible rfl
            simp only [Act.put, List.setIfInBounds_toArray, List.set_cons_zero, List.set_cons_succ]
            refine wpAnyH_take (i := 17) (v := ?v17) (by simp only [List.getElem?_toArray, List.getElem?_cons_succ, List.getElem?_cons_zero]; rfl) (by kernel_rfl) (by kernel_rfl) (by kernel_rfl) (fun _ _ _ h => h) (Or.inl ⟨by rfl, ?h17⟩) hHeld ?r17
            case h17 => intro w hSw; (try dsimp only at hSw); go_simp; with_reducible rfl
            simp only [Act.put, List.setIfInBounds_toArray, List.set_cons_zero, List.set_cons_succ]
            refine wpAnyH_ready (rs := [18]) (by kernel_rfl) (by simp) (AllReadyH.cons (by simp only [List.getElem?_toArray, List.getElem?_cons_succ, List.getElem?_cons_zero]; rfl) (fun K hK => ?_) AllReadyH.nil)
            have SA : ∀ o, (W5.alloc o).cell? ⟨g, ss'.length * 2 + 1, none⟩ = some (.slice A6 sx.arcs.length c6) ∧ (W5.alloc o).cell? ⟨g2, 0, none⟩ = some (.int .i64 z0) ∧ (W5.alloc o).cell? ⟨g2, 1, none⟩ = some (.int .i64 z1) ∧ (W5.alloc o).cell? ⟨g2, 2, none⟩ = some (.int .i64 z2) ∧ (W5.alloc o).cell? ⟨g2, 3, none⟩ = some (.int .i64 z3) := fun o => by
              have hb : Below W5.heap.size W5 (W5.alloc o) := (Below.refl _ _).alloc (Nat.le_refl _) o
              obtain ⟨s1, s2, s3, s4, s5⟩ := HS5.out
              exact ⟨cell_keep hb (Nat.le_refl _) s1, cell_keep hb (Nat.le_refl _) s2, cell_keep hb (Nat.le_refl _) s3, cell_keep hb (Nat.le_refl _) s4, cell_keep hb (Nat.le_refl _) s5⟩
            have HSA := Lib.hid SA; clear SA
            go_simp
            refine hK.out _ _ (HSA.out _) (fun hHeld => ?_)
            clear hK K
            refine wpAnyH_ready (rs := [19]) (by kernel_rfl) (by simp) (AllReadyH.cons (by simp only [List.getElem?_toArray, List.getElem?_cons_succ, List.getElem?_cons_zero]; rfl) (fun K hK => ?_) AllReadyH.nil)
            refine step_app1 (by rfl) _ _ (by rfl) eltAr w0.heap.size (.slice A6 sx.arcs.length c6) _ _ (by rfl) (World.ownsRow.alloc HOWN5.out _) W5.heap.size #[.int .i64 z1, .int .i64 z2, .int .i64 z3, .int .i64 z0] (heap_alloc_new W5 _) (by rfl) (by rfl) (by simp [Value.oneCell']) (by omega) (by omega) (by simp; omega) ?_
            intro g3 cap w8 ho8 hg8 hat8 hlt8
            have S8 : w8.cell? ⟨g, ss'.length * 2 + 1, none⟩ = some (.slice A6 sx.arcs.length c6) ∧ w8.cell? ⟨g2, 0, none⟩ = some (.int .i64 z0) ∧ w8.cell? ⟨g2, 1, none⟩ = some (.int .i64 z1) ∧ w8.cell? ⟨g2, 2, none⟩ = some (.int .i64 z2) ∧ w8.cell? ⟨g2, 3, none⟩ = some (.int .i64 z3) := by
              obtain ⟨s1, s2, s3, s4, s5⟩ := HSA.out (.cells #[.int .i64 z1, .int .i64 z2, .int .i64 z3, .int .i64 z0] 54)
              have hne1 : some g ≠ (Value.slice A6 sx.arcs.length c6).ownBlock := fun e => by
                rcases own_ne HOWN5.out HP5.out.own.row (by decide) with e2 | e2
                · rw [e2] at e; cases e
                · exact e2 e.symm
              have hne2 : some g2 ≠ (Value.slice A6 sx.arcs.length c6).ownBlock := fun e => by
                rcases own_ne HOWN5.out HOI5.out (by decide) with e2 | e2
                · rw [e2] at e; cases e
                · exact e2 e.symm
              exact ⟨hg8.cell s1 hne1, hg8.cell s2 hne2, hg8.cell s3 hne2, hg8.cell s4 hne2, hg8.cell s5 hne2⟩
            have hf8 : w8.frozen? ⟨g, ss'.length * 2 + 1, none⟩ = false := by
              have hlg : g < W5.heap.size := World.block_lt_of_cell? _ _ HS5.out.1
              have hne1 : some g ≠ (Value.slice A6 sx.arcs.length c6).ownBlock := fun e => by
                rcases own_ne HOWN5.out HP5.out.own.row (by decide) with e2 | e2
                · rw [e2] at e; cases e
                · exact e2 e.symm
              rw [World.frozen?_of_block (hg8.block g (by simp; omega) hne1), World.frozen?_of_block (heap_alloc_old W5 _ hlg)]
              exact fA5
            have hl8 : g < w8.heap.size := World.block_lt_of_cell? _ _ S8.1
            have LV := Lib.hid (HP5.out.arc (by omega) (show w.heap.size + 1 < w.heap.size + 2 by omega) (by omega) (Nat.le_refl _) hg8 ho8 (by
              rcases hat8 with h | h
              · exact .inl h.symm
              · exact .inr ⟨g3, by rw [h]; simp, rfl⟩) (show pre.length < (pre ++ [x]).length by simp) HST.out)
            refine hK.out _ _ S8 (fun hHeld => ?_)
            clear hK K
            simp only [Act.put, List.setIfInBounds_toArray, List.set_cons_zero, List.set_cons_succ]
            refine wpAnyH_take (i := 20) (v := ?v20) (by simp only [List.getElem?_toArray, List.getElem?_cons_succ, List.getElem?_cons_zero]; rfl) (by kernel_rfl) (by kernel_rfl) (by kernel_rfl) (fun _ _ _ h => h) (Or.inl ⟨by rfl, ?h20⟩) hHeld ?r20
            case h20 => intro w hSw; (try dsimp only at hSw); go_simp; with_reducible rfl
            simp only [Act.put, List.setIfInBounds_toArray, List.set_cons_zero, List.set_cons_succ]
            refine wpAnyH_take (i := 21) (v := ?v21) (by simp only [List.getElem?_toArray, List.getElem?_cons_succ, List.getElem?_cons_zero]; rfl) (by kernel_rfl) (by kernel_rfl) (by kernel_rfl) (fun _ _ _ h => h) (Or.inl ⟨by rfl, ?h21⟩) hHeld ?r21
            case h21 => intro w hSw; (try dsimp only at hSw); go_simp; with_reducible rfl
            simp only [Act.put, List.setIfInBounds_toArray, List.set_cons_zero, List.set_cons_succ]
            refine wpAnyH_done (by kernel_rfl) ?_ _
            show Oper.wp _ _ _ _ _ _
            clear S8 ho8 hg8 hat8
            go_simp
            refine OnlyNormal.normal ?_
            gi_wp2
            obtain ⟨q7, q8, q9⟩ := LV.out
            exact ⟨(keepsFrom_below B5.out).trans q8, q9.trans (B5.out.block _ (by have := HP.out.size; omega)), _, _, _, _, q7⟩
          · have i4 : ¬ (0 : Int) < (ss.length : Int) := by omega
            have HS := Lib.hid (stepR_skip (m := ⟨st, ss⟩) HNU.out (fun h => absurd (HQ.out.symm.trans h.1) (by decide)) (fun h => absurd (HQ.out.symm.trans h.1) (by decide)) (fun h => c3 h.2.2))
            obtain ⟨A5, c5, hsv, -, -⟩ := own_form HP2.out.own.row
            subst hsv
            clear c1
            gi_wp2
            exact HSK.out HS.out
        · have hc1 : ((ns.length : Int) == 4) = false := by simp; omega
          have HS := Lib.hid (stepR_skip (m := ⟨st, ss⟩) HNU.out (fun h => absurd (HQ.out.symm.trans h.1) (by decide)) (fun h => absurd (HQ.out.symm.trans h.1) (by decide)) (fun h => c1 h.2.1))
          gi_wp2
          exact HSK.out HS.out
      · rw [q1] at e1; rw [q2] at e2; rw [q3] at e3
        have HS := Lib.hid (stepR_skip (m := ⟨st, ss⟩) HNU.out (fun h => by rw [HY0.out] at h; simp [h.1] at q1) (fun h => by rw [HY0.out] at h; simp [h.1] at q2) (fun h => by rw [HY0.out] at h; simp [h.1] at q3))
        have HQ1 := Lib.hid q1; have HQ2 := Lib.hid q2; have HQ3 := Lib.hid q3
        clear q1 q2 q3 HC
        gi_wp2
        exact HSK.out HS.out
  case done =>
    rintro D W hD ⟨st, sv, vs, ss, HP⟩ hK
    obtain ⟨A5, c5, rfl, -, -⟩ := own_form HP.own.row
    have hR := HP.res; have hB := HP.box
    have r0 := hR.cell 0; have r1 := hR.cell 1; have rf0 := hR.froz 0; have rf1 := hR.froz 1; have rl := hR.lt
    have k0 := hB.cell 0; have k1 := hB.cell 1; have kl := hB.lt
    have HPP := Lib.hid HP; have hKK := Lib.hid hK
    have hRR := Lib.hid hR
    clear HP hK hR hB
    have hDW := (Array.getElem?_eq_some_iff.1 hKK.out).1
    have FIN : ∀ W8, W8 = (W.setCell ⟨w.heap.size, 0, none⟩ (.int .i64 st)).setCell ⟨w.heap.size, 1, none⟩ (.slice A5 ss.length c5) → W8.heap[D]? = some (.deferred (some [])) ∧ Blk (W8.putObj D (.deferred none)) w.heap.size #[.int .i64 st, .slice A5 ss.length c5] 27 ∧
        OwnStV (W8.putObj D (.deferred none)) w0.heap.size (.slice A5 ss.length c5) vs ss ∧ Below w.heap.size w (W8.putObj D (.deferred none)) := by
      rintro W8 rfl
      have hd : ((W.setCell ⟨w.heap.size, 0, none⟩ (.int .i64 st)).setCell ⟨w.heap.size, 1, none⟩ (.slice A5 ss.length c5)).heap[D]? = some (.deferred (some [])) := by
        rw [Below.heap_setCell _ _ _ _ (show D ≠ w.heap.size by omega), Below.heap_setCell _ _ _ _ (show D ≠ w.heap.size by omega)]
        exact hKK.out
      have hb : Blk ((W.setCell ⟨w.heap.size, 0, none⟩ (.int .i64 st)).setCell ⟨w.heap.size, 1, none⟩ (.slice A5 ss.length c5)) w.heap.size #[.int .i64 st, .slice A5 ss.length c5] 27 := ((hRR.out.put 0 (.int .i64 st)).put 1 (.slice A5 ss.length c5)).eq rfl
      have hbe := (HPP.out.bel.setCell (p := ⟨w.heap.size, 0, none⟩) (Nat.le_refl _) (.int .i64 st)).setCell (p := ⟨w.heap.size, 1, none⟩) (Nat.le_refl _) (.slice A5 ss.length c5)
      have ho := (HPP.out.own.setCell (a := ⟨w.heap.size, 0, none⟩) (by show w.heap.size < _; omega) (.int .i64 st)).setCell (a := ⟨w.heap.size, 1, none⟩) (by show w.heap.size < _; omega) (.slice A5 ss.length c5)
      refine ⟨hd, hb.grown (grownBy_putObj' _ D _) (by simp; omega), ho.keptFrom (grownBy_putObj' _ D _) (fun r e => by cases e; exact .inr ⟨_, hd, rfl⟩), hbe.trans (belowK_b (w := w) (Nat.le_refl _) _ D _ _ (by omega) hd rfl rfl)⟩
    have HFIN := Lib.hid FIN; clear FIN
    gi_wp2
    generalize hW8 : (W.setCell ⟨w.heap.size, 0, none⟩ (.int .i64 st)).setCell ⟨w.heap.size, 1, none⟩ (.slice A5 ss.length c5) = W8 at *
    obtain ⟨f1, f2, f3, f4⟩ := HFIN.out W8 rfl
    refine ⟨by simp, .inl ⟨_, _, rfl, run_takeDeferred f1, ?_⟩⟩
    have c0 := f2.cell 0; have c1 := f2.cell 1
    have cl := f2.lt
    have HR := Lib.hid (show OwnMach (W8.putObj D (.deferred none)) w.heap.size (.agg #[.int .i64 st, .slice A5 ss.length c5]) ⟨st, ss⟩ from ⟨_, rfl, vs, f3.mono (by omega)⟩)
    refine ⟨.agg #[.int .i64 st, .slice A5 ss.length c5], ?_, .agg #[.int .i64 st, .slice A5 ss.length c5], ⟨st, ss⟩, rfl, by rw [hSL]; exact HPP.out.rd, HR.out, fun y hy => by have := HPP.out.alen y hy; have := linesL_count s; omega, f4⟩
    clear k0 k1 r0 r1 f1 f2 f3 f4 hW8
    simp [results, Tryz.results16, go_sem, *]
  case stop => intro D c W _ h _; exact h.elim
end Go.Proofs.YtajbfhdkghofbaaGreatDoor
