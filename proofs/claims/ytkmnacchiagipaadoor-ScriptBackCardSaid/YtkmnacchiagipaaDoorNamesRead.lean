/- names.Read: what a text reads as, and whether it is taken. -/
import Derived.Test.YtkmnacchiagipaaDoorNamesShow
import Derived.Test.YtkmnacchiagipaaDoorLines
import Derived.Test.YtkmnacchiagipaaDoorNamesTable
namespace Go.Proofs.YtkmnacchiagipaaDoor
open Go.RowKit
attribute [local go_sem] Oper.semAt_some

theorem names_no (A : Option Addr) (l : List NameL) (c : Nat) (w : World) (hT : NamesAt w A l) (hok : ¬ NamesOk l) :
    Calls Tryd.prog 15 #[.slice A l.length c] w fun e w' => (∃ er, er ≠ 0 ∧ e = .returned (.tuple #[.string ⟨#[]⟩, .int .i64 er])) ∧ Below w.heap.size w w' := by
  have CH : Hid (Calls Tryd.prog 14 #[.slice A l.length c] w fun e w' => ∃ er : Int, e = .returned (.int .i64 er) ∧ er ≠ 0 ∧ Below w.heap.size w w') := Lib.hid ((NCheck_any A l c w hT).mono fun e w' ⟨er, h1, h2, h3⟩ => ⟨er, h1, fun h0 => hok (h2.1.1 h0), h3⟩)
  clear hT hok
  go_enter Tryd.func15, Tryd.ntmps15
  go_wp2_with fail
  refine CH.out.mono ?_; rintro e w1 ⟨er, rfl, h0, b1⟩
  have h1 : (er == 0) = false := by simpa using h0
  go_wp2_with fail
  go_ret2
  exact ⟨⟨er, h0, rfl⟩, b1⟩
/-- what Show answers -/
def ShowN (l : List NameL) (e : Ending) : Prop := (NamesOk l ∧ e = .returned (.tuple #[.string ⟨(namesT l).toArray⟩, .int .i64 0])) ∨ (¬ NamesOk l ∧ ∃ er, er ≠ 0 ∧ e = .returned (.tuple #[.string ⟨#[]⟩, .int .i64 er]))
theorem names_show (A : Option Addr) (l : List NameL) (c : Nat) (w : World) (hT : NamesAt w A l) (ht : TabP w) : Calls Tryd.prog 15 #[.slice A l.length c] w fun e w' => ShowN l e ∧ Below w.heap.size w w' := by
  by_cases h : NamesOk l
  · exact (names_ok A l c w hT h ht).mono fun _ _ h1 => ⟨.inl ⟨h, h1.1⟩, h1.2⟩
  · exact (names_no A l c w hT h).mono fun _ _ h1 => ⟨.inr ⟨h, h1.1⟩, h1.2⟩

/-- a line as a name -/
def NameOf (x : List UInt8) (n : NameL) : Prop := n.text = (Lib.cut x [32]).1 ∧ ∃ ev, AtoiR (Lib.trimSuffix (Lib.cut x [32]).2.1 [10]) n.label ev
def NamesOf (xs : List (List UInt8)) (l : List NameL) : Prop := l.length = xs.length ∧ ∀ i (h : i < xs.length) (h' : i < l.length), NameOf xs[i] l[i]
theorem NamesOf.nil : NamesOf [] [] := ⟨rfl, fun i h => absurd h (by simp)⟩
theorem NamesOf.snoc {xs : List (List UInt8)} {l : List NameL} {x : List UInt8} {n : NameL} (h : NamesOf xs l) (k : NameOf x n) : NamesOf (xs ++ [x]) (l ++ [n]) := by
  refine ⟨by simp [h.1], fun i hi hi' => ?_⟩
  simp only [List.length_append, List.length_cons, List.length_nil] at hi hi'
  by_cases e : i < xs.length
  · rw [List.getElem_append_left e, List.getElem_append_left (by rw [h.1]; exact e)]; exact h.2 i e _
  · have e1 : i = xs.length := by omega
    have e2 : i = l.length := by rw [h.1]; exact e1
    rw [List.getElem_append_right (by omega), List.getElem_append_right (by omega)]
    simpa using k
/-- what the loop keeps: the list so far, in a row of the call's own from w0's end on -/
def NRead (w w0 : World) (B : Nat) (pre : List (List UInt8)) (W : World) : Prop := ∃ v l, Boxed W B 30 v ∧ W.ownsRow w0.heap.size 37 2 v l.length (namesC l) ∧ NamesOf pre l ∧ Below w.heap.size w W ∧ w0.heap.size ≤ W.heap.size
theorem boxed_noRow {W : World} {B T : Nat} {v : Value} (h : Boxed W B T v) {r : Nat} (hr : ∃ o : Obj, W.heap[r]? = some o ∧ o.isCells = false) : B ≠ r := by
  rintro rfl
  obtain ⟨o, ho, hc⟩ := hr
  unfold Boxed at h
  rw [h] at ho; cases ho; cases hc
theorem own_noRow {W : World} {base e size n : Nat} {v : Value} {xs : List Value} (h : W.ownsRow base e size v n xs) {r : Nat} (hr : ∃ o : Obj, W.heap[r]? = some o ∧ o.isCells = false) : v.ownBlock ≠ some r := by
  intro hv
  obtain ⟨o, ho, hc⟩ := hr
  rcases h.2 with ⟨rfl, _⟩ | ⟨g, cap, cur, rfl, _, hg, _⟩
  · simp [Value.ownBlock] at hv
  · simp [Value.ownBlock] at hv
    subst hv
    rw [hg] at ho; cases ho; cases hc
theorem nread_own (w w0 : World) (B Bs : Nat) (hB : B < Bs) (hBs : Bs < w0.heap.size) (hw : w.heap.size ≤ B) : BoxOwn w0.heap.size Bs (NRead w w0 B) := by
  rintro pre W W' row ⟨v, l, h1, h2, h3, h4, h5⟩ hg hr
  have hBr : some B ≠ row := fun e => by
    rcases hr B e.symm with h | ⟨_, h⟩
    · omega
    · exact boxed_noRow h1 h rfl
  have hvr : v.ownBlock = none ∨ v.ownBlock ≠ row := by
    cases hv : v.ownBlock with
    | none => exact .inl rfl
    | some g =>
      right
      intro e
      have hgb := (h2.lt g hv).1
      rcases hr g e.symm with h | ⟨_, h⟩
      · omega
      · exact own_noRow h2 h hv
  exact ⟨v, l, h1.kept hg hBr, h2.kept hg hvr, h3, h4.grown hg (by have := h4.size; omega) (fun k e => by
    rcases hr k e with h | ⟨h, _⟩
    · omega
    · omega), Nat.le_trans h5 hg.size⟩
theorem cut_le (x : List UInt8) : (Lib.cut x [32]).1.length ≤ x.length ∧ (Lib.cut x [32]).2.1.length ≤ x.length := by
  unfold Lib.cut
  split
  · simp; omega
  · simp
theorem suffix_le (x : List UInt8) : (Lib.trimSuffix x [10]).length ≤ x.length := by
  unfold Lib.trimSuffix
  split
  · simp
  · exact Nat.le_refl _
/-- what Read answers -/
def ReadN (w : World) (s : List UInt8) (e : Ending) (w' : World) : Prop :=
  (∃ v l, NamesOf (linesL s) l ∧ NamesOk l ∧ namesT l = s ∧ e = .returned (.tuple #[v, .int .i64 0]) ∧ w'.ownsRow w.heap.size 37 2 v l.length (namesC l)) ∨
  ((20000 < s.length ∨ ∃ l, NamesOf (linesL s) l ∧ ¬ (NamesOk l ∧ namesT l = s)) ∧ ∃ er, er ≠ 0 ∧ e = .returned (.tuple #[.slice none 0 0, .int .i64 er]))

set_option maxRecDepth 100000 in
set_option maxHeartbeats 8000000 in
theorem names_read (sb : ByteArray) (w : World) (ht : TextW w) : Calls Tryd.prog 16 #[.string sb] w fun e w' => ReadN w sb.data.toList e w' ∧ Below w.heap.size w w' := by
  have hsz : sb.size = sb.data.toList.length := Lib.size_eq sb
  by_cases h20 : 20000 < sb.size
  · have i0 : (20000 : Int) < (sb.size : Int) := by omega
    have HR : Hid (20000 < sb.data.toList.length) := Lib.hid (by omega)
    clear hsz ht
    go_enter Tryd.func16, Tryd.ntmps16
    go_wp2_with fail
    go_ret2
    exact ⟨.inr ⟨.inl HR.out, 1, by omega, rfl⟩, Below.refl _ _⟩
  have i0 : ¬ (20000 : Int) < (sb.size : Int) := by omega
  have HSZ := Lib.hid hsz; have HTW := Lib.hid ht
  clear hsz ht
  refine (callsIn_wide (n := 3)).1 ?_
  refine callsIn_of_wp_marks Tryd.func16 rfl trivial ?_ rfl
  simp only [Tryd.ntmps16, List.size_toArray, List.length_cons, List.length_nil, Nat.reduceAdd, Nat.reduceSub, Array.replicate_succ, Array.replicate_zero, List.push_toArray, List.append_toArray, List.nil_append, List.cons_append]
  gi_wp2_with (refine ⟨trivial, ?_⟩; gi_at_call 40; refine (callsIn_wide.2 (Lines_any sb _)).mono ?_; rintro e w' ⟨rfl, rfl⟩)
  have e9 : (⟨sb.data.toList.toArray⟩ : ByteArray) = sb := bytes_of rfl
  have hbx : Boxed ((w.alloc (.cells #[.slice none 0 0] 30)).alloc (.cells #[.string sb] 9)) (w.heap.size + 1) 9 (.string ⟨sb.data.toList.toArray⟩) := by
    rw [e9]; have := Boxed.new (w.alloc (.cells #[.slice none 0 0] 30)) 9 (.string sb); rwa [World.size_alloc] at this
  have hbl : Boxed ((w.alloc (.cells #[.slice none 0 0] 30)).alloc (.cells #[.string sb] 9)) w.heap.size 30 (.slice none 0 0) := (Boxed.new w _ _).alloc _
  have hbel : Below w.heap.size w ((w.alloc (.cells #[.slice none 0 0] 30)).alloc (.cells #[.string sb] 9)) := (by repeat' (first | exact Below.refl _ _ | assumption | refine Below.drew ?_ | refine Below.alloc ?_ (by first | omega | (simp; done) | (simp; omega)) _ | refine Below.setCell ?_ (by first | omega | (simp; done) | (simp; omega)) _))
  have hs0 : ((w.alloc (.cells #[.slice none 0 0] 30)).alloc (.cells #[.string sb] 9)).heap.size = w.heap.size + 2 := by simp
  generalize (w.alloc (.cells #[.slice none 0 0] 30)).alloc (.cells #[.string sb] 9) = w0 at *
  generalize hSL : sb.data.toList = s at *
  have hlen : s.length ≤ 20000 := by have := HSZ.out; omega
  refine wpIn_lines (gf := 79) (T := 9) lines_run (enters_of Tryd.func79 (by kernel_rfl) rfl) 1 (w.heap.size + 1) s rfl hbx (by omega)
    (NRead w w0 w.heap.size) (fun _ _ => False) (nread_own w w0 _ _ (by omega) (by omega) (Nat.le_refl _)) (fun c _ W W' row h _ _ => h.elim)
    ⟨_, [], hbl, ⟨by simp [namesC], .inl ⟨rfl, rfl⟩⟩, NamesOf.nil, hbel, Nat.le_refl _⟩ ?a1 ?assign ?body ?done ?stop
  case assign =>
    intro l x W K hK
    gi_wp2
    exact hK
  case body =>
    rintro l pre x rest W hx ⟨v, ls, h1, h2, h3, h4, h5⟩
    have hxl : x.length ≤ 20000 := by have := linesL_mem (s := s) (x := x) (by rw [hx]; simp); omega
    have hlc := linesL_count s
    have hpl : pre.length < 20000 := by rw [hx] at hlc; simp at hlc; omega
    have hll : ls.length < 20000 := by rw [h3.1]; exact hpl
    have hcl := cut_le x
    have hNO : Hid (∀ n : NameL, n.text = (Lib.cut x [32]).1 → (∃ ev, AtoiR (Lib.trimSuffix (Lib.cut x [32]).2.1 [10]) n.label ev) → NamesOf (pre ++ [x]) (ls ++ [n])) := Lib.hid fun n e1 e2 => h3.snoc ⟨e1, e2⟩
    have CU := Lib.hid (cut_any ⟨x.toArray⟩ (by show x.length ≤ _; omega) W (HTW.out.below h4).max)
    have etl : (⟨x.toArray⟩ : ByteArray).data.toList = x := rfl
    rw [etl] at CU
    generalize hct : (Lib.cut x [32]).1 = ct at *
    generalize hcr : (Lib.cut x [32]).2.1 = cr at *
    generalize hcb : (Lib.cut x [32]).2.2 = cb at *
    have htl := suffix_le cr
    have TS := Lib.hid (fun W => suffix_any ⟨cr.toArray⟩ (by show cr.length ≤ _; omega) W)
    have etl : (⟨cr.toArray⟩ : ByteArray).data.toList = cr := rfl
    rw [etl] at TS
    generalize hts : Lib.trimSuffix cr [10] = ts at *
    have AT := Lib.hid (fun W (hb : Below w.heap.size w W) => atoi_any ⟨ts.toArray⟩ (by show ts.length ≤ _; omega) W (HTW.out.below hb))
    have H4 := Lib.hid h4
    have H1 := Lib.hid h1; have H2 := Lib.hid h2
    clear hx h3 hct hcr hcb hts etl hlc h1 h2 h4 hcl htl
    gi_wp2
    refine ⟨trivial, ?_⟩
    refine (CallsIn.inRound l (callsIn_wide.2 CU.out)).mono ?_; rintro e W1 ⟨rfl, b1⟩
    have bel1 := Lib.hid (H4.out.trans (b1.mono H4.out.size))
    have X1 := Lib.hid (H1.out.kept (grown_of_below b1 none) (by simp)); have Y1 := Lib.hid (own_below H2.out b1 (Nat.le_refl _))
    have hz1 := b1.size
    gi_wp2
    refine ⟨trivial, ?_⟩
    refine (CallsIn.inRound l (callsIn_wide.2 (TS.out _))).mono ?_; rintro e W1' ⟨rfl, rfl⟩
    gi_wp2
    refine ⟨trivial, ?_⟩
    refine (CallsIn.inRound l (callsIn_wide.2 (AT.out _ bel1.out))).mono ?_; rintro e W2 ⟨nv, ev, rfl, hAR, b2⟩
    have HAR := Lib.hid hAR; clear hAR
    have b12 := b1.trans (b2.mono b1.size)
    have X2 := X1.out.kept (grown_of_below b2 none) (by simp); have Y2 := own_below Y1.out b2 (Nat.le_refl _)
    have hk := X2.cell; have hf := X2.frozen; have hlt := X2.lt
    have LA := Lib.hid (fun w3 hg => line_app (w3 := w3) (Bs := w.heap.size + 1) b12 X2 Y2 (.cells #[.string ⟨ct.toArray⟩, .int .i64 nv] 37) hg (by omega) (by omega) (by omega) h5)
    obtain ⟨i0', hi, hz0, hz1, hz2⟩ := info_parts eltName.info
    have hz2s := b12.size
    have HY2 := Lib.hid Y2; have HX2 := Lib.hid X2
    clear b1 b2 X1 Y1 bel1 CU TS AT H1 H2 X2 Y2
    gi_wp2_with (gi_at_builtin; refine wpListIn_append_own _ rfl _ _ 30 rfl w0.heap.size 37 i0' (.agg #[.string ByteArray.empty, .int .i64 0]) 2 24 Tryd.underlying30 hi hz0 hz1 hz2 rfl (by decide) _ _ _ rfl (HY2.out.alloc _) ⟨W2.heap.size, 0, none⟩ 1 1 [.string ⟨ct.toArray⟩, .int .i64 nv] rfl rfl (World.news_of_block (heap_alloc_new W2 _)) (by simp [Value.oneCell']) (by unfold maxLen; omega) (by omega) (by simp; omega) ?_; intro v' w3 hown' hgrow _; obtain ⟨g', cap', rfl⟩ := ownsRow_succ hown'; obtain ⟨LP, X3⟩ := LA.out w3 hgrow; have hk3 := X3.cell; have hf3 := X3.frozen; have hlt3 := X3.lt; have LV := Lib.hid (LP (.slice (some ⟨g', 0, none⟩) (ls.length + 1) cap')); have HO := Lib.hid hown'; clear hgrow hown' LP X3)
    obtain ⟨q1, q2, q3, q4, q5, q6⟩ := LV.out
    refine ⟨q2, q3, _, ls ++ [⟨ct, nv⟩], q1, ?_, hNO.out _ rfl ⟨ev, HAR.out⟩, q6 H4.out (Nat.le_refl _), q4⟩
    have e5 : (ls ++ [(⟨ct, nv⟩ : NameL)]).length = ls.length + 1 := by simp
    have e6 : namesC (ls ++ [(⟨ct, nv⟩ : NameL)]) = namesC ls ++ [.string ⟨ct.toArray⟩, .int .i64 nv] := by unfold namesC; rw [List.flatMap_append]; rfl
    rw [e5, e6]
    exact q5 HO.out
  case done =>
    rintro D W hD ⟨v, ls, h1, h2, h3, h4, h5⟩ hK
    obtain ⟨A, c, rfl, -, -⟩ := own_form h2
    have hk := h1.cell; have hf := h1.frozen; have hlt := h1.lt
    have NA := NamesAt.of_own h2
    have SH := Lib.hid (names_show A ls c W NA (HTW.out.below h4).tab)
    have H1 := Lib.hid h1; have H2 := Lib.hid h2; have H3 := Lib.hid h3; have H4 := Lib.hid h4
    have hKK := Lib.hid hK
    have hDW := (Array.getElem?_eq_some_iff.1 hK).1
    clear h1 h2 h3 h4 NA hK
    gi_wp2
    refine ⟨trivial, ?_⟩
    refine (callsIn_wide.2 SH.out).mono ?_; rintro e W1 ⟨hs, b1⟩
    have X1 := H1.out.kept (grown_of_below b1 none) (by simp); have Y1 := own_below H2.out b1 (Nat.le_refl _)
    have hk := X1.cell; have hf := X1.frozen; have hlt := X1.lt
    have hK1 : W1.heap[D]? = some (.deferred (some [])) := (b1.block D hDW).trans hKK.out
    have B1 := Lib.hid (H4.out.trans (b1.mono H4.out.size))
    have hz := b1.size
    clear X1 b1 SH H1 H2
    have fin : ∀ (W' : World), W' = W1.putObj D (.deferred none) → Below w.heap.size w W' ∧ W'.ownsRow w.heap.size 37 2 (.slice A ls.length c) ls.length (namesC ls) := by
      rintro W' rfl
      exact ⟨B1.out.trans (belowK_b (w := w) (Nat.le_refl _) W1 D _ _ (by omega) hK1 rfl rfl), ownsRow_putObj (own_mono Y1 (by omega)) _ hK1 rfl⟩
    have HF := Lib.hid fin; clear fin Y1
    have hbeq : ∀ t : List UInt8, (t == sb.toList) = decide (t = s) := fun t => by rw [Lib.toList_data, hSL, Bool.eq_iff_iff]; simp
    rcases hs with ⟨hok, rfl⟩ | ⟨hno, er, he0, rfl⟩
    · by_cases hts : namesT ls = s
      · have e8 : (namesT ls == sb.toList) = true := by rw [hbeq]; simpa using hts
        have HTS := Lib.hid hts; have HOK := Lib.hid hok
        clear hts hbeq hok e9
        gi_wp2
        refine ⟨by simp, .inl ⟨_, _, rfl, run_takeDeferred hK1, ?_⟩⟩
        refine ⟨.tuple #[.slice A ls.length c, .int .i64 0], (by simp [results, Tryd.results16, go_sem]), ?_, (HF.out _ rfl).1⟩
        exact .inl ⟨_, ls, by rw [hSL]; exact H3.out, HOK.out, by rw [hSL]; exact HTS.out, rfl, (HF.out _ rfl).2⟩
      · have e8 : (namesT ls == sb.toList) = false := by rw [hbeq]; simpa using hts
        have HTS := Lib.hid hts
        clear hts hbeq hok e9
        gi_wp2
        refine ⟨by simp, .inl ⟨_, _, rfl, run_takeDeferred hK1, ?_⟩⟩
        refine ⟨.tuple #[.slice none 0 0, .int .i64 3], (by simp [results, Tryd.results16, go_sem]), ?_, (HF.out _ rfl).1⟩
        exact .inr ⟨.inr ⟨ls, by rw [hSL]; exact H3.out, fun h => HTS.out (by rw [← hSL]; exact h.2)⟩, 3, by omega, rfl⟩
    · have h1 : (er == 0) = false := by simpa using he0
      have h2 : (er != 0) = true := by simpa using he0
      have h3 : er ≠ 0 := he0
      have HNO := Lib.hid hno
      clear hbeq hno e9 he0
      gi_wp2
      refine ⟨by simp, .inl ⟨_, _, rfl, run_takeDeferred hK1, ?_⟩⟩
      refine ⟨.tuple #[.slice none 0 0, .int .i64 3], (by simp [results, Tryd.results16, go_sem]), ?_, (HF.out _ rfl).1⟩
      exact .inr ⟨.inr ⟨ls, by rw [hSL]; exact H3.out, fun h => HNO.out h.1⟩, 3, by omega, rfl⟩
  case stop => intro D c W _ h _; exact h.elim
end Go.Proofs.YtkmnacchiagipaaDoor
