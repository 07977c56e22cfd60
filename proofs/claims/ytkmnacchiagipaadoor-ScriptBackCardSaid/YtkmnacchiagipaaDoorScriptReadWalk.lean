/- script.Read: what a text reads as, or that it is refused. -/
import Derived.Test.YtkmnacchiagipaaDoorScriptShow
import Derived.Test.YtkmnacchiagipaaDoorNamesRead
import Derived.Test.YtkmnacchiagipaaDoorRegionRound
namespace Go.Proofs.YtkmnacchiagipaaDoor
open Go.RowKit
attribute [local go_sem] Oper.semAt_some

structure ScrW (W : World) : Prop where
  forms : FormsA W
  max : MaxP W
theorem ScrW.below {w w' : World} (h : ScrW w) (hb : Below w.heap.size w w') : ScrW w' := ⟨h.forms.below hb, h.max.below hb⟩
theorem shownA_err (s : StepL) : ∀ (ags line : List UInt8) (rest : StepL) (er : Int), shownA s ags line rest = .inl er → er ≠ 0
  | [], line, rest, er, h => by simp [shownA] at h
  | c :: cs, line, rest, er, h => by
    unfold shownA at h
    by_cases h1 : c = 110
    · rw [if_pos h1] at h
      by_cases h2 : nameB s.name = true
      · rw [if_pos h2] at h; exact shownA_err s cs _ _ _ h
      · rw [if_neg h2] at h; cases h; omega
    · rw [if_neg h1] at h
      by_cases h2 : getF s c.toNat < 0 ∨ 25 < getF s c.toNat
      · rw [if_pos h2] at h; cases h; omega
      · rw [if_neg h2] at h; exact shownA_err s cs _ _ _ h
theorem shownS_err {s : StepL} {er : Int} (h : shownS s = .inl er) : er ≠ 0 := by
  unfold shownS at h
  by_cases hk : s.kind < 1 ∨ 15 < s.kind
  · rw [if_pos hk] at h; cases h; omega
  · rw [if_neg hk] at h
    cases hA : shownA s (argsF (s.kind - 1).toNat) (wordF (s.kind - 1).toNat) { s with kind := 0 } with
    | inl e => rw [hA] at h; cases h; exact shownA_err _ _ _ _ _ hA
    | inr p =>
      obtain ⟨l, r⟩ := p
      rw [hA] at h
      unfold endA at h
      by_cases hz : r = zeroS
      · simp only [hz, if_true] at h; cases h
      · simp only [hz, if_false] at h; cases h; omega
theorem stepOf_name (x : List UInt8) : (stepOf x).name.length ≤ x.length := stepW_name _ _ fun y hy => words_len x y hy
/-- a script that is taken -/
def ScrOk (s : List UInt8) : Prop := (linesL s).length ≤ 30 ∧ ∀ x ∈ linesL s, shownS (stepOf x) = .inr x
structure SRead (w w0 : World) (pre : List (List UInt8)) (W : World) (v : Value) : Prop where
  r0 : Boxed W w.heap.size 49 (.slice none 0 0)
  r1 : Boxed W (w.heap.size + 1) 3 (.int .i64 0)
  r2 : Boxed W (w.heap.size + 2) 23 (.int .i64 0)
  box : Boxed W (w.heap.size + 3) 49 v
  own : W.ownsRow w0.heap.size 51 5 v pre.length (stepsC (pre.map stepOf))
  len : pre.length ≤ 30
  ok : ∀ x ∈ pre, shownS (stepOf x) = .inr x
  bel : Below w.heap.size w W
  size : w0.heap.size ≤ W.heap.size
def SReadX (w w0 : World) (pre : List (List UInt8)) (W : World) : Prop := ∃ v, SRead w w0 pre W v
/-- how a round may leave -/
def SStop (w w0 : World) (s : List UInt8) (c : Code) (W : World) : Prop := c = .ret ∧ ∃ k er : Int, er ≠ 0 ∧ 0 ≤ k ∧ k ≤ 30 ∧ Boxed W w.heap.size 49 (.slice none 0 0) ∧ Boxed W (w.heap.size + 1) 3 (.int .i64 k) ∧
  Boxed W (w.heap.size + 2) 23 (.int .i64 er) ∧ Below w.heap.size w W ∧ w0.heap.size ≤ W.heap.size ∧ ¬ ScrOk s
theorem box_ne {w0 W : World} {B Bs T : Nat} {v : Value} {row : Option Nat} (h1 : Boxed W B T v) (hB : B < Bs) (hr : ∀ r, row = some r → r = Bs ∨ (w0.heap.size ≤ r ∧ ∃ o : Obj, W.heap[r]? = some o ∧ o.isCells = false)) : some B ≠ row := fun e => by
  rcases hr B e.symm with h | ⟨_, h⟩
  · omega
  · exact boxed_noRow h1 h rfl
theorem sread_own (w w0 : World) (hBs : w.heap.size + 4 < w0.heap.size) : BoxOwn w0.heap.size (w.heap.size + 4) (SReadX w w0) := by
  rintro pre W W' row ⟨v, h⟩ hg hr
  have hvr : v.ownBlock = none ∨ v.ownBlock ≠ row := by
    cases hv : v.ownBlock with
    | none => exact .inl rfl
    | some g =>
      right
      intro e
      have hgb := (h.own.lt g hv).1
      rcases hr g e.symm with h' | ⟨_, h'⟩
      · omega
      · exact own_noRow h.own h' hv
  exact ⟨v, h.r0.kept hg (box_ne h.r0 (by omega) hr), h.r1.kept hg (box_ne h.r1 (by omega) hr), h.r2.kept hg (box_ne h.r2 (by omega) hr), h.box.kept hg (box_ne h.box (by omega) hr),
    h.own.kept hg hvr, h.len, h.ok, h.bel.grown hg (by have := h.bel.size; omega) (fun k e => by
      rcases hr k e with h' | ⟨h', _⟩
      · omega
      · omega), Nat.le_trans h.size hg.size⟩
theorem sstop_own (w w0 : World) (s : List UInt8) (c : Code) (hBs : w.heap.size + 4 < w0.heap.size) : BoxOwn w0.heap.size (w.heap.size + 4) (fun (_ : Unit) => SStop w w0 s c) := by
  rintro _ W W' row ⟨hc, k, er, h1, h2, h3, r0, r1, r2, hb, hs, hn⟩ hg hr
  exact ⟨hc, k, er, h1, h2, h3, r0.kept hg (box_ne r0 (by omega) hr), r1.kept hg (box_ne r1 (by omega) hr), r2.kept hg (box_ne r2 (by omega) hr),
    hb.grown hg (by have := hb.size; omega) (fun k e => by
      rcases hr k e with h' | ⟨h', _⟩
      · omega
      · omega), Nat.le_trans hs hg.size, hn⟩
/-- a round that stops -/
theorem SRead.stop {w w0 W W1 : World} {pre : List (List UInt8)} {v : Value} {s : List UInt8} (h : SRead w w0 pre W v) (hs0 : w0.heap.size = w.heap.size + 5) (hb : Below W.heap.size W W1) (k er : Int) (he : er ≠ 0) (hk0 : 0 ≤ k) (hk : k ≤ 30) (hn : ¬ ScrOk s) :
    KeepsFrom w0.heap.size W (((W1.setCell ⟨w.heap.size, 0, none⟩ (.slice none 0 0)).setCell ⟨w.heap.size + 1, 0, none⟩ (.int .i64 k)).setCell ⟨w.heap.size + 2, 0, none⟩ (.int .i64 er)) ∧
    SStop w w0 s .ret (((W1.setCell ⟨w.heap.size, 0, none⟩ (.slice none 0 0)).setCell ⟨w.heap.size + 1, 0, none⟩ (.int .i64 k)).setCell ⟨w.heap.size + 2, 0, none⟩ (.int .i64 er)) := by
  have q0 := h.r0.kept (grown_of_below hb none) (by simp)
  have q1 := h.r1.kept (grown_of_below hb none) (by simp)
  have q2 := h.r2.kept (grown_of_below hb none) (by simp)
  refine ⟨(((keepsFrom_below hb).trans ((KeepsOthers.setCell _ _ _).from _)).trans ((KeepsOthers.setCell _ _ _).from _)).trans ((KeepsOthers.setCell _ _ _).from _), rfl, k, er, he, hk0, hk, ?_, ?_, ?_, ?_, ?_, hn⟩
  · exact ((q0.set _).other (by omega) _).other (by omega) _
  · exact ((q1.other (by omega) _).set _).other (by omega) _
  · exact ((q2.other (by omega) _).other (by omega) _).set _
  · exact (((h.bel.trans (hb.mono h.bel.size)).setCell (p := ⟨w.heap.size, 0, none⟩) (Nat.le_refl _) _).setCell (p := ⟨w.heap.size + 1, 0, none⟩) (by show w.heap.size ≤ w.heap.size + 1; omega) _).setCell (p := ⟨w.heap.size + 2, 0, none⟩) (by show w.heap.size ≤ w.heap.size + 2; omega) _
  · have := hb.size; have := h.size; simp [World.setCell]; omega
/-- a round that appends -/
theorem SRead.push {w w0 W W2 w3 : World} {pre : List (List UInt8)} {v v' : Value} {x : List UInt8} (h : SRead w w0 pre W v) (hs0 : w0.heap.size = w.heap.size + 5) (hb : Below W.heap.size W W2) (o : Obj) (hg : (W2.alloc o).grownBy w3 v.ownBlock)
    (hown : w3.ownsRow w0.heap.size 51 5 v' (pre.length + 1) (stepsC (pre.map stepOf) ++ stepC (stepOf x))) (hx : shownS (stepOf x) = .inr x) (h30 : pre.length < 30) :
    KeepsFrom w0.heap.size W (w3.setCell ⟨w.heap.size + 3, 0, none⟩ v') ∧ (w3.setCell ⟨w.heap.size + 3, 0, none⟩ v').heap[w.heap.size + 4]? = W.heap[w.heap.size + 4]? ∧ SReadX w w0 (pre ++ [x]) (w3.setCell ⟨w.heap.size + 3, 0, none⟩ v') := by
  have hY := own_below h.own hb (Nat.le_refl _)
  have hob : ∀ j, v.ownBlock = some j → w0.heap.size ≤ j := fun j hj => (hY.lt j hj).1
  have hX := h.box.kept (grown_of_below hb none) (by simp)
  obtain ⟨L, -⟩ := line_app (Bs := w.heap.size + 4) hb hX hY o hg (by omega) (by omega) (by omega) h.size
  obtain ⟨l1, l2, l3, l4, l5, l6⟩ := L v'
  have keep : ∀ {B T : Nat} {u : Value}, Boxed W B T u → B < w.heap.size + 3 → Boxed (w3.setCell ⟨w.heap.size + 3, 0, none⟩ v') B T u := fun {B T u} hu hB =>
    ((((hu.kept (grown_of_below hb none) (by simp)).alloc o).kept hg (fun e => by have := hob _ e.symm; omega))).other (by omega) _
  refine ⟨l2, l3, v', keep h.r0 (by omega), keep h.r1 (by omega), keep h.r2 (by omega), l1, ?_, by simp; omega, fun y hy => ?_, l6 h.bel (by omega), l4⟩
  · have e1 : (pre ++ [x]).length = pre.length + 1 := by simp
    have e2 : stepsC ((pre ++ [x]).map stepOf) = stepsC (pre.map stepOf) ++ stepC (stepOf x) := by unfold stepsC; simp
    rw [e1, e2]; exact l5 hown
  · rcases List.mem_append.1 hy with hy | hy
    · exact h.ok y hy
    · obtain rfl := List.mem_singleton.1 hy; exact hx
theorem ScrOk.not_len {s : List UInt8} {pre rest : List (List UInt8)} {x : List UInt8} (hx : linesL s = pre ++ x :: rest) (h : pre.length = 30) : ¬ ScrOk s := fun hs => by
  have := hs.1
  rw [hx] at this; simp at this; omega
theorem ScrOk.not_line {s : List UInt8} {pre rest : List (List UInt8)} {x : List UInt8} (hx : linesL s = pre ++ x :: rest) (h : shownS (stepOf x) ≠ .inr x) : ¬ ScrOk s := fun hs => h (hs.2 x (by rw [hx]; simp))
theorem eltStep : Elt Tryd.prog 49 51 (.agg #[.int .i64 0, .int .i64 0, .int .i64 0, .int .i64 0, .string ByteArray.empty]) 5 48 := ⟨Tryd.underlying49, by kernel_rfl, rfl, by omega⟩
/-- what Read answers -/
def ReadS (w : World) (s : List UInt8) (e : Ending) (w' : World) : Prop :=
  (s.length ≤ 2000 ∧ ScrOk s ∧ ∃ v, e = .returned (.tuple #[v, .int .i64 0, .int .i64 0]) ∧ w'.ownsRow w.heap.size 51 5 v (linesL s).length (stepsC ((linesL s).map stepOf))) ∨
  ((2000 < s.length ∨ ¬ ScrOk s) ∧ ∃ k er : Int, er ≠ 0 ∧ 0 ≤ k ∧ k ≤ 30 ∧ e = .returned (.tuple #[.slice none 0 0, .int .i64 k, .int .i64 er]))

set_option maxRecDepth 100000 in
set_option maxHeartbeats 8000000 in
theorem Read_script (sb : ByteArray) (w : World) (ht : ScrW w) : Calls Tryd.prog 23 #[.string sb] w fun e w' => ReadS w sb.data.toList e w' ∧ Below w.heap.size w w' := by
  have hsz : sb.size = sb.data.toList.length := Lib.size_eq sb
  by_cases h20 : 2000 < sb.size
  · have i0 : (2000 : Int) < (sb.size : Int) := by omega
    have HR : Hid (2000 < sb.data.toList.length) := Lib.hid (by omega)
    clear hsz ht h20
    go_enter Tryd.func23, Tryd.ntmps23
    go_wp2_with fail
    refine bodyPost_ret (v := .tuple #[.slice none 0 0, .int .i64 0, .int .i64 1]) (by simp [results, Tryd.results23, go_sem, *]) rfl ⟨.inr ⟨.inl HR.out, 0, 1, by omega, by omega, by omega, rfl⟩, (by repeat' (first | exact Below.refl _ _ | assumption | refine Below.drew ?_ | refine Below.alloc ?_ (by first | omega | (simp; done) | (simp; omega)) _ | refine Below.setCell ?_ (by first | omega | (simp; done) | (simp; omega)) _))⟩
  have i0 : ¬ (2000 : Int) < (sb.size : Int) := by omega
  have HTW := Lib.hid ht
  have hlen : sb.data.toList.length ≤ 2000 := by omega
  clear ht hsz h20
  refine (callsIn_wide (n := 3)).1 ?_
  refine callsIn_of_wp_marks Tryd.func23 rfl trivial ?_ rfl
  simp only [Tryd.ntmps23, List.size_toArray, List.length_cons, List.length_nil, Nat.reduceAdd, Nat.reduceSub, Array.replicate_succ, Array.replicate_zero, List.push_toArray, List.append_toArray, List.nil_append, List.cons_append]
  gi_wp2_with (refine ⟨trivial, ?_⟩; gi_at_call 40; refine (callsIn_wide.2 (Lines_any sb _)).mono ?_; rintro e w' ⟨rfl, rfl⟩)
  have e9 : (⟨sb.data.toList.toArray⟩ : ByteArray) = sb := bytes_of rfl
  have hR0 : Boxed (((((w.alloc (.cells #[.slice none 0 0] 49)).alloc (.cells #[.int .i64 0] 3)).alloc (.cells #[.int .i64 0] 23)).alloc (.cells #[.slice none 0 0] 49)).alloc (.cells #[.string sb] 9)) w.heap.size 49 (.slice none 0 0) := ((((Boxed.new w _ _).alloc _).alloc _).alloc _).alloc _
  have hR1 : Boxed (((((w.alloc (.cells #[.slice none 0 0] 49)).alloc (.cells #[.int .i64 0] 3)).alloc (.cells #[.int .i64 0] 23)).alloc (.cells #[.slice none 0 0] 49)).alloc (.cells #[.string sb] 9)) (w.heap.size + 1) 3 (.int .i64 0) := (((show Boxed _ _ _ _ from Blk.new' (by simp)).alloc _).alloc _).alloc _
  have hR2 : Boxed (((((w.alloc (.cells #[.slice none 0 0] 49)).alloc (.cells #[.int .i64 0] 3)).alloc (.cells #[.int .i64 0] 23)).alloc (.cells #[.slice none 0 0] 49)).alloc (.cells #[.string sb] 9)) (w.heap.size + 2) 23 (.int .i64 0) := ((show Boxed _ _ _ _ from Blk.new' (by simp)).alloc _).alloc _
  have hR3 : Boxed (((((w.alloc (.cells #[.slice none 0 0] 49)).alloc (.cells #[.int .i64 0] 3)).alloc (.cells #[.int .i64 0] 23)).alloc (.cells #[.slice none 0 0] 49)).alloc (.cells #[.string sb] 9)) (w.heap.size + 3) 49 (.slice none 0 0) := (show Boxed _ _ _ _ from Blk.new' (by simp)).alloc _
  have hbx : Boxed (((((w.alloc (.cells #[.slice none 0 0] 49)).alloc (.cells #[.int .i64 0] 3)).alloc (.cells #[.int .i64 0] 23)).alloc (.cells #[.slice none 0 0] 49)).alloc (.cells #[.string sb] 9)) (w.heap.size + 4) 9 (.string ⟨sb.data.toList.toArray⟩) := by
    rw [e9]; exact Blk.new' (by simp)
  have hbel : Below w.heap.size w (((((w.alloc (.cells #[.slice none 0 0] 49)).alloc (.cells #[.int .i64 0] 3)).alloc (.cells #[.int .i64 0] 23)).alloc (.cells #[.slice none 0 0] 49)).alloc (.cells #[.string sb] 9)) := (by repeat' (first | exact Below.refl _ _ | assumption | refine Below.drew ?_ | refine Below.alloc ?_ (by first | omega | (simp; done) | (simp; omega)) _ | refine Below.setCell ?_ (by first | omega | (simp; done) | (simp; omega)) _))
  have hs0 : (((((w.alloc (.cells #[.slice none 0 0] 49)).alloc (.cells #[.int .i64 0] 3)).alloc (.cells #[.int .i64 0] 23)).alloc (.cells #[.slice none 0 0] 49)).alloc (.cells #[.string sb] 9)).heap.size = w.heap.size + 5 := by simp
  generalize ((((w.alloc (.cells #[.slice none 0 0] 49)).alloc (.cells #[.int .i64 0] 3)).alloc (.cells #[.int .i64 0] 23)).alloc (.cells #[.slice none 0 0] 49)).alloc (.cells #[.string sb] 9) = w0 at *
  generalize hSL : sb.data.toList = s at *
  refine wpIn_lines (gf := 79) (T := 9) lines_run (enters_of Tryd.func79 (by kernel_rfl) rfl) 1 (w.heap.size + 4) s rfl hbx (by omega)
    (SReadX w w0) (SStop w w0 s) (sread_own w w0 (by omega)) (fun c => sstop_own w w0 s c (by omega))
    ⟨_, hR0, hR1, hR2, hR3, ⟨by simp [stepsC], .inl ⟨rfl, rfl⟩⟩, by simp, fun x h => by simp at h, hbel, Nat.le_refl _⟩ ?a1 ?assign ?body ?done ?stop
  case assign =>
    intro l x W K hK
    gi_wp2
    exact hK
  case body =>
    rintro l pre x rest W hx ⟨v, HP0⟩
    have HP := Lib.hid HP0
    have hxl : x.length ≤ 2000 := by have := linesL_mem (s := s) (x := x) (by rw [hx]; simp); omega
    have hpl := HP0.len
    obtain ⟨A, c, rfl, -, -⟩ := own_form HP0.own
    have HX := Lib.hid hx
    have k0 := HP0.box.cell; have kf := HP0.box.frozen; have kl := HP0.box.lt
    have r0 := HP0.r0.cell; have r0f := HP0.r0.frozen; have r0l := HP0.r0.lt
    have r1 := HP0.r1.cell; have r1f := HP0.r1.frozen; have r1l := HP0.r1.lt
    have r2 := HP0.r2.cell; have r2f := HP0.r2.frozen; have r2l := HP0.r2.lt
    clear HP0 hx
    by_cases h30 : pre.length = 30
    · have i3 : ((pre.length : Int) == 30) = true := by rw [h30]; rfl
      have HNO := Lib.hid (ScrOk.not_len HX.out h30)
      have HBX := Lib.hid (HP.out.box.kept (grown_of_below ((Below.refl _ _).drew : Below W.heap.size W W.drew) none) (by simp))
      have bk0 := HBX.out.cell
      have D0 := HP.out.r0.kept (grown_of_below ((Below.refl _ _).drew : Below W.heap.size W W.drew) none) (by simp)
      have D1 := HP.out.r1.kept (grown_of_below ((Below.refl _ _).drew : Below W.heap.size W W.drew) none) (by simp)
      have D2 := HP.out.r2.kept (grown_of_below ((Below.refl _ _).drew : Below W.heap.size W W.drew) none) (by simp)
      have d0 := D0.cell; have d0f := D0.frozen; have d0l := D0.lt
      have d1 := D1.cell; have d1f := D1.frozen; have d1l := D1.lt
      have d2 := D2.cell; have d2f := D2.frozen; have d2l := D2.lt
      have bdr : Below W.heap.size W W.drew := (Below.refl _ _).drew
      clear D0 D1 D2
      have H30 := Lib.hid h30
      clear h30
      gi_wp2
      have hHeld : (fun W' : World => W'.cell? ⟨w.heap.size + 3, 0, none⟩ = some (.slice A pre.length c)) (W).drew := bk0
      refine region_round (by kernel_rfl) (by kernel_rfl) ?_
      refine wpAny_of_held (S := fun W' : World => W'.cell? ⟨w.heap.size + 3, 0, none⟩ = some (.slice A pre.length c)) _ _ _ _ ?_
      generalize (W).drew = w9 at *
      refine wpAnyH_take (i := 0) (v := ?v0) (by simp only [List.getElem?_toArray, List.getElem?_cons_zero]; rfl) (by kernel_rfl) (by kernel_rfl) (by kernel_rfl) (fun _ _ _ h => h) (Or.inl ⟨by rfl, ?h0⟩) hHeld ?r0
      case h0 => intro w hSw; (try dsimp only at hSw); go_simp; with_reducible rfl
      simp only [Act.put, List.setIfInBounds_toArray, List.set_cons_zero, List.set_cons_succ]
      refine wpAnyH_take (i := 1) (v := ?v1) (by simp only [List.getElem?_toArray, List.getElem?_cons_succ, List.getElem?_cons_zero]; rfl) (by kernel_rfl) (by kernel_rfl) (by kernel_rfl) (fun _ _ _ h => h) (Or.inl ⟨by rfl, ?h1⟩) hHeld ?r1
      case h1 => intro w hSw; (try dsimp only at hSw); go_simp; with_reducible rfl
      simp only [Act.put, List.setIfInBounds_toArray, List.set_cons_zero, List.set_cons_succ]
      refine wpAnyH_ready (rs := [2]) (by kernel_rfl) (by simp) (AllReadyH.cons (by simp only [List.getElem?_toArray, List.getElem?_cons_succ, List.getElem?_cons_zero]; rfl) (fun K hK => ?_) AllReadyH.nil)
      go_simp
      refine hK.out _ _ (HBX.out.other (B' := w.heap.size) (by omega) _).cell (fun hHeld => ?_)
      clear hK K
      refine wpAnyH_ready (rs := [3]) (by kernel_rfl) (by simp) (AllReadyH.cons (by simp only [List.getElem?_toArray, List.getElem?_cons_succ, List.getElem?_cons_zero]; rfl) (fun K hK => ?_) AllReadyH.nil)
      go_simp
      refine hK.out _ _ ((HBX.out.other (B' := w.heap.size) (by omega) _).other (B' := w.heap.size + 1) (by omega) _).cell (fun hHeld => ?_)
      clear hK K
      refine wpAnyH_ready (rs := [4]) (by kernel_rfl) (by simp) (AllReadyH.cons (by simp only [List.getElem?_toArray, List.getElem?_cons_succ, List.getElem?_cons_zero]; rfl) (fun K hK => ?_) AllReadyH.nil)
      go_simp
      refine hK.out _ _ (((HBX.out.other (B' := w.heap.size) (by omega) _).other (B' := w.heap.size + 1) (by omega) _).other (B' := w.heap.size + 2) (by omega) _).cell (fun hHeld => ?_)
      clear hK K
      refine wpAnyH_done (by kernel_rfl) ?_ _
      refine OnlyNormal.normal ?_
      gi_wp2
      exact HP.out.stop hs0 bdr _ 5 (by omega) (by omega) (by omega) HNO.out
    · have i3 : ((pre.length : Int) == 30) = false := by simp; omega
      have SP := Lib.hid (step_any x W (by omega) (HTW.out.below HP.out.bel).forms (HTW.out.below HP.out.bel).max)
      have hnm := stepOf_name x
      have SH := Lib.hid (fun W (hb : Below w.heap.size w W) => shown_any (stepOf x) W (by omega) (HTW.out.below hb).forms.forms)
      have HST : Hid (stepOf x = stepOf x) := Lib.hid rfl
      have HPU := Lib.hid (fun (W2 w3 : World) (v' : Value) (hb : Below W.heap.size W W2) o hg hown hx => HP.out.push (W2 := W2) (w3 := w3) (v' := v') (x := x) hs0 hb o hg hown hx (show pre.length < 30 by omega))
      have HNL := Lib.hid (ScrOk.not_line HX.out)
      generalize hst : stepOf x = st at *
      obtain ⟨sk, sd, sa, sb', sn⟩ := st
      simp only [stepC] at SP SH
      clear hst
      gi_wp2
      refine ⟨trivial, ?_⟩
      refine (CallsIn.inRound l (callsIn_wide.2 SP.out)).mono ?_; rintro e W1 ⟨rfl, b1⟩
      have bel1 := HP.out.bel.trans (b1.mono HP.out.bel.size)
      have bA : Below W1.heap.size W1 (W1.alloc (.cells #[.int .i64 sk, .int .i64 sd, .int .i64 sa, .int .i64 sb', .string ⟨sn.toArray⟩] 51)) := (Below.refl _ _).alloc (Nat.le_refl _) _
      have belA := bel1.trans (bA.mono bel1.size)
      have XA := Lib.hid (Blk.new W1 #[.int .i64 sk, .int .i64 sd, .int .i64 sa, .int .i64 sb', .string ⟨sn.toArray⟩] 51)
      have h1 := b1.size
      clear k0 kf kl r0 r0f r0l r1 r1f r1l r2 r2f r2l
      gi_wp2
      refine ⟨trivial, ?_⟩
      refine (CallsIn.inRound l (callsIn_wide.2 (SH.out _ belA))).mono ?_; rintro e W2 ⟨he, b2⟩
      have bA2 := bA.trans (b2.mono bA.size)
      have b12 := b1.trans (bA2.mono b1.size)
      have X2 := XA.out.step b2
      have HB12 := Lib.hid b12
      have x0 := X2.cell 0; have x1 := X2.cell 1; have x2 := X2.cell 2; have x3 := X2.cell 3; have x4 := X2.cell 4; have xl := X2.lt
      clear b1 bA b2 bA2 b12 bel1 belA XA SP SH X2
      cases hsh : shownS ⟨sk, sd, sa, sb', sn⟩ with
      | inl er =>
        have he0 := shownS_err hsh
        obtain rfl : e = .returned (.tuple #[.string ⟨#[]⟩, .int .i64 er]) := he.trans (by unfold ShownE; rw [hsh])
        have HNO := Lib.hid (HNL.out (by rw [hsh]; intro hh; cases hh))
        have q1 : (er == 0) = false := by simpa using he0
        have q2 : (er != 0) = true := by simpa using he0
        have q3 : er ≠ 0 := he0
        clear he hsh
        have HBX := Lib.hid (HP.out.box.kept (grown_of_below HB12.out.drew none) (by simp))
        have bk0 := HBX.out.cell
        have D0 := HP.out.r0.kept (grown_of_below HB12.out.drew none) (by simp)
        have D1 := HP.out.r1.kept (grown_of_below HB12.out.drew none) (by simp)
        have D2 := HP.out.r2.kept (grown_of_below HB12.out.drew none) (by simp)
        have d0 := D0.cell; have d0f := D0.frozen; have d0l := D0.lt
        have d1 := D1.cell; have d1f := D1.frozen; have d1l := D1.lt
        have d2 := D2.cell; have d2f := D2.frozen; have d2l := D2.lt
        have bdr : Below W.heap.size W W2.drew := HB12.out.drew
        clear D0 D1 D2
        gi_wp2
        have hHeld : (fun W' : World => W'.cell? ⟨w.heap.size + 3, 0, none⟩ = some (.slice A pre.length c)) (W2).drew := bk0
        refine region_round (by kernel_rfl) (by kernel_rfl) ?_
        refine wpAny_of_held (S := fun W' : World => W'.cell? ⟨w.heap.size + 3, 0, none⟩ = some (.slice A pre.length c)) _ _ _ _ ?_
        generalize (W2).drew = w9 at *
        refine wpAnyH_take (i := 0) (v := ?v0b) (by simp only [List.getElem?_toArray, List.getElem?_cons_zero]; rfl) (by kernel_rfl) (by kernel_rfl) (by kernel_rfl) (fun _ _ _ h => h) (Or.inl ⟨by rfl, ?h0b⟩) hHeld ?r0b
        case h0b => intro w hSw; (try dsimp only at hSw); go_simp; with_reducible rfl
        simp only [Act.put, List.setIfInBounds_toArray, List.set_cons_zero, List.set_cons_succ]
        refine wpAnyH_take (i := 1) (v := ?v1b) (by simp only [List.getElem?_toArray, List.getElem?_cons_succ, List.getElem?_cons_zero]; rfl) (by kernel_rfl) (by kernel_rfl) (by kernel_rfl) (fun _ _ _ h => h) (Or.inl ⟨by rfl, ?h1b⟩) hHeld ?r1b
        case h1b => intro w hSw; (try dsimp only at hSw); go_simp; with_reducible rfl
        simp only [Act.put, List.setIfInBounds_toArray, List.set_cons_zero, List.set_cons_succ]
        refine wpAnyH_ready (rs := [2]) (by kernel_rfl) (by simp) (AllReadyH.cons (by simp only [List.getElem?_toArray, List.getElem?_cons_succ, List.getElem?_cons_zero]; rfl) (fun K hK => ?_) AllReadyH.nil)
        go_simp
        refine hK.out _ _ (HBX.out.other (B' := w.heap.size) (by omega) _).cell (fun hHeld => ?_)
        clear hK K
        refine wpAnyH_ready (rs := [3]) (by kernel_rfl) (by simp) (AllReadyH.cons (by simp only [List.getElem?_toArray, List.getElem?_cons_succ, List.getElem?_cons_zero]; rfl) (fun K hK => ?_) AllReadyH.nil)
        go_simp
        refine hK.out _ _ ((HBX.out.other (B' := w.heap.size) (by omega) _).other (B' := w.heap.size + 1) (by omega) _).cell (fun hHeld => ?_)
        clear hK K
        refine wpAnyH_ready (rs := [4]) (by kernel_rfl) (by simp) (AllReadyH.cons (by simp only [List.getElem?_toArray, List.getElem?_cons_succ, List.getElem?_cons_zero]; rfl) (fun K hK => ?_) AllReadyH.nil)
        go_simp
        refine hK.out _ _ (((HBX.out.other (B' := w.heap.size) (by omega) _).other (B' := w.heap.size + 1) (by omega) _).other (B' := w.heap.size + 2) (by omega) _).cell (fun hHeld => ?_)
        clear hK K
        refine wpAnyH_done (by kernel_rfl) ?_ _
        refine OnlyNormal.normal ?_
        gi_wp2
        exact HP.out.stop hs0 bdr _ 3 (by omega) (by omega) (by omega) HNO.out
      | inr t =>
        obtain rfl : e = .returned (.tuple #[.string ⟨t.toArray⟩, .int .i64 0]) := he.trans (by unfold ShownE; rw [hsh])
        by_cases htx : t = x
        · subst htx
          have HSH := Lib.hid hsh
          have KB := HP.out.box.kept (grown_of_below HB12.out none) (by simp)
          have k0 := KB.cell; have kf := KB.frozen; have kl := KB.lt
          obtain ⟨i0', hi, hz0, hz1, hz2⟩ := info_parts eltStep.info
          have HOW := Lib.hid (own_below HP.out.own HB12.out (Nat.le_refl _))
          have h12 := HB12.out.size
          clear he hsh KB
          gi_wp2_with (gi_at_builtin; refine wpListIn_append_own _ rfl _ _ 49 rfl w0.heap.size 51 i0' (.agg #[.int .i64 0, .int .i64 0, .int .i64 0, .int .i64 0, .string ByteArray.empty]) 5 48 Tryd.underlying49 hi hz0 hz1 hz2 rfl (by decide) _ _ _ rfl (HOW.out.alloc _) ⟨W2.heap.size, 0, none⟩ 1 1 [.int .i64 sk, .int .i64 sd, .int .i64 sa, .int .i64 sb', .string ⟨sn.toArray⟩] rfl rfl (World.news_of_block (heap_alloc_new W2 _)) (by simp [Value.oneCell']) (by unfold maxLen; omega) (by omega) (by simp; omega) ?_; intro v' w3 hown' hgrow _; obtain ⟨g', cap', rfl⟩ := ownsRow_succ hown'; have LV := Lib.hid (HPU.out W2 w3 _ HB12.out _ hgrow hown' HSH.out); have Z1 := Lib.hid (((HP.out.box.kept (grown_of_below HB12.out none) (by simp)).alloc _).kept hgrow (fun e => by have := (HOW.out.lt _ e.symm).1; omega)); have z1 := Z1.out.cell; have zf := Z1.out.frozen; have zl := Z1.out.lt; clear hgrow hown')
          exact LV.out
        · have HNO := Lib.hid (HNL.out (by rw [hsh]; intro hh; cases hh; exact htx rfl))
          have e1 : (t == x) = false := by simpa using htx
          clear he hsh
          have HBX := Lib.hid (HP.out.box.kept (grown_of_below HB12.out.drew none) (by simp))
          have bk0 := HBX.out.cell
          have D0 := HP.out.r0.kept (grown_of_below HB12.out.drew none) (by simp)
          have D1 := HP.out.r1.kept (grown_of_below HB12.out.drew none) (by simp)
          have D2 := HP.out.r2.kept (grown_of_below HB12.out.drew none) (by simp)
          have d0 := D0.cell; have d0f := D0.frozen; have d0l := D0.lt
          have d1 := D1.cell; have d1f := D1.frozen; have d1l := D1.lt
          have d2 := D2.cell; have d2f := D2.frozen; have d2l := D2.lt
          have bdr : Below W.heap.size W W2.drew := HB12.out.drew
          clear D0 D1 D2
          gi_wp2
          have hHeld : (fun W' : World => W'.cell? ⟨w.heap.size + 3, 0, none⟩ = some (.slice A pre.length c)) (W2).drew := bk0
          refine region_round (by kernel_rfl) (by kernel_rfl) ?_
          refine wpAny_of_held (S := fun W' : World => W'.cell? ⟨w.heap.size + 3, 0, none⟩ = some (.slice A pre.length c)) _ _ _ _ ?_
          generalize (W2).drew = w9 at *
          refine wpAnyH_take (i := 0) (v := ?v0c) (by simp only [List.getElem?_toArray, List.getElem?_cons_zero]; rfl) (by kernel_rfl) (by kernel_rfl) (by kernel_rfl) (fun _ _ _ h => h) (Or.inl ⟨by rfl, ?h0c⟩) hHeld ?r0c
          case h0c => intro w hSw; (try dsimp only at hSw); go_simp; with_reducible rfl
          simp only [Act.put, List.setIfInBounds_toArray, List.set_cons_zero, List.set_cons_succ]
          refine wpAnyH_take (i := 1) (v := ?v1c) (by simp only [List.getElem?_toArray, List.getElem?_cons_succ, List.getElem?_cons_zero]; rfl) (by kernel_rfl) (by kernel_rfl) (by kernel_rfl) (fun _ _ _ h => h) (Or.inl ⟨by rfl, ?h1c⟩) hHeld ?r1c
          case h1c => intro w hSw; (try dsimp only at hSw); go_simp; with_reducible rfl
          simp only [Act.put, List.setIfInBounds_toArray, List.set_cons_zero, List.set_cons_succ]
          refine wpAnyH_ready (rs := [2]) (by kernel_rfl) (by simp) (AllReadyH.cons (by simp only [List.getElem?_toArray, List.getElem?_cons_succ, List.getElem?_cons_zero]; rfl) (fun K hK => ?_) AllReadyH.nil)
          go_simp
          refine hK.out _ _ (HBX.out.other (B' := w.heap.size) (by omega) _).cell (fun hHeld => ?_)
          clear hK K
          refine wpAnyH_ready (rs := [3]) (by kernel_rfl) (by simp) (AllReadyH.cons (by simp only [List.getElem?_toArray, List.getElem?_cons_succ, List.getElem?_cons_zero]; rfl) (fun K hK => ?_) AllReadyH.nil)
          go_simp
          refine hK.out _ _ ((HBX.out.other (B' := w.heap.size) (by omega) _).other (B' := w.heap.size + 1) (by omega) _).cell (fun hHeld => ?_)
          clear hK K
          refine wpAnyH_ready (rs := [4]) (by kernel_rfl) (by simp) (AllReadyH.cons (by simp only [List.getElem?_toArray, List.getElem?_cons_succ, List.getElem?_cons_zero]; rfl) (fun K hK => ?_) AllReadyH.nil)
          go_simp
          refine hK.out _ _ (((HBX.out.other (B' := w.heap.size) (by omega) _).other (B' := w.heap.size + 1) (by omega) _).other (B' := w.heap.size + 2) (by omega) _).cell (fun hHeld => ?_)
          clear hK K
          refine wpAnyH_done (by kernel_rfl) ?_ _
          refine OnlyNormal.normal ?_
          gi_wp2
          exact HP.out.stop hs0 bdr _ 3 (by omega) (by omega) (by omega) HNO.out
  case done =>
    rintro D W hD ⟨v, HP0⟩ hK
    obtain ⟨A, c, rfl, -, -⟩ := own_form HP0.own
    have HPP := Lib.hid HP0; have hKK := Lib.hid hK
    have k0 := HP0.box.cell; have kf := HP0.box.frozen; have kl := HP0.box.lt
    have r0 := HP0.r0.cell; have r0f := HP0.r0.frozen; have r0l := HP0.r0.lt
    have r1 := HP0.r1.cell; have r1f := HP0.r1.frozen; have r1l := HP0.r1.lt
    have r2 := HP0.r2.cell; have r2f := HP0.r2.frozen; have r2l := HP0.r2.lt
    have hDW := (Array.getElem?_eq_some_iff.1 hK).1
    have FIN : ∀ W8, W8 = ((W.setCell ⟨w.heap.size, 0, none⟩ (.slice A (linesL s).length c)).setCell ⟨w.heap.size + 1, 0, none⟩ (.int .i64 0)).setCell ⟨w.heap.size + 2, 0, none⟩ (.int .i64 0) →
        W8.heap[D]? = some (.deferred (some [])) ∧ Boxed (W8.putObj D (.deferred none)) w.heap.size 49 (.slice A (linesL s).length c) ∧ Boxed (W8.putObj D (.deferred none)) (w.heap.size + 1) 3 (.int .i64 0) ∧ Boxed (W8.putObj D (.deferred none)) (w.heap.size + 2) 23 (.int .i64 0) ∧
        (W8.putObj D (.deferred none)).ownsRow w.heap.size 51 5 (.slice A (linesL s).length c) (linesL s).length (stepsC ((linesL s).map stepOf)) ∧ Below w.heap.size w (W8.putObj D (.deferred none)) := by
      rintro W8 rfl
      have hd : (((W.setCell ⟨w.heap.size, 0, none⟩ (.slice A (linesL s).length c)).setCell ⟨w.heap.size + 1, 0, none⟩ (.int .i64 0)).setCell ⟨w.heap.size + 2, 0, none⟩ (.int .i64 0)).heap[D]? = some (.deferred (some [])) := by
        rw [Below.heap_setCell _ _ _ _ (show D ≠ w.heap.size + 2 by omega), Below.heap_setCell _ _ _ _ (show D ≠ w.heap.size + 1 by omega), Below.heap_setCell _ _ _ _ (show D ≠ w.heap.size by omega)]
        exact hK
      have hbe := ((HP0.bel.setCell (p := ⟨w.heap.size, 0, none⟩) (Nat.le_refl _) (.slice A (linesL s).length c)).setCell (p := ⟨w.heap.size + 1, 0, none⟩) (by show w.heap.size ≤ w.heap.size + 1; omega) (.int .i64 0)).setCell (p := ⟨w.heap.size + 2, 0, none⟩) (by show w.heap.size ≤ w.heap.size + 2; omega) (.int .i64 0)
      have hob : ∀ j, (Value.slice A (linesL s).length c).ownBlock = some j → w0.heap.size ≤ j := fun j hj => (HP0.own.lt j hj).1
      have ho := ((HP0.own.kept (grownBy_setCell' W w.heap.size (.slice A (linesL s).length c)) (.inr (fun e => by have := hob _ e; omega))).kept (grownBy_setCell' _ (w.heap.size + 1) (.int .i64 0)) (.inr (fun e => by have := hob _ e; omega))).kept (grownBy_setCell' _ (w.heap.size + 2) (.int .i64 0)) (.inr (fun e => by have := hob _ e; omega))
      refine ⟨hd, ((((HP0.r0.set _).other (by omega) _).other (by omega) _)).kept (grownBy_putObj' _ D _) (by simp; omega), ((((HP0.r1.other (by omega) _).set _).other (by omega) _)).kept (grownBy_putObj' _ D _) (by simp; omega), ((((HP0.r2.other (by omega) _).other (by omega) _).set _)).kept (grownBy_putObj' _ D _) (by simp; omega), ?_, hbe.trans (belowK_b (w := w) (Nat.le_refl _) _ D _ _ (by omega) hd rfl rfl)⟩
      exact ownsRow_putObj (own_mono ho (by omega)) _ hd rfl
    have HFIN := Lib.hid FIN; clear FIN HP0 hK
    gi_wp2
    generalize hW8 : ((W.setCell ⟨w.heap.size, 0, none⟩ (.slice A (linesL s).length c)).setCell ⟨w.heap.size + 1, 0, none⟩ (.int .i64 0)).setCell ⟨w.heap.size + 1 + 1, 0, none⟩ (.int .i64 0) = W8 at *
    obtain ⟨f1, f2, f3, f4, f5, f6⟩ := HFIN.out W8 rfl
    refine ⟨by simp, .inl ⟨_, _, rfl, run_takeDeferred f1, ?_⟩⟩
    have c0 := f2.cell; have c1 := f3.cell; have c2 := f4.cell
    have cl0 := f2.lt; have cl1 := f3.lt; have cl2 := f4.lt
    have HR : Hid (ReadS w s (.returned (.tuple #[.slice A (linesL s).length c, .int .i64 0, .int .i64 0])) (W8.putObj D (.deferred none)) ∧ Below w.heap.size w (W8.putObj D (.deferred none))) := Lib.hid ⟨.inl ⟨by omega, ⟨HPP.out.len, HPP.out.ok⟩, _, rfl, f5⟩, f6⟩
    refine ⟨.tuple #[.slice A (linesL s).length c, .int .i64 0, .int .i64 0], ?_, (show ReadS w sb.data.toList _ _ ∧ _ by rw [hSL]; exact HR.out)⟩
    clear k0 r0 r1 r2 f1 f2 f3 f4 f5 f6 hW8
    simp [results, Tryd.results23, go_sem, *]
  case stop =>
    rintro D c W hD ⟨rfl, k, er, he0, hk0, hk30, b0, b1, b2, hb, hz, hno⟩ hK
    have FIN : Boxed (W.putObj D (.deferred none)) w.heap.size 49 (.slice none 0 0) ∧ Boxed (W.putObj D (.deferred none)) (w.heap.size + 1) 3 (.int .i64 k) ∧ Boxed (W.putObj D (.deferred none)) (w.heap.size + 2) 23 (.int .i64 er) ∧ Below w.heap.size w (W.putObj D (.deferred none)) :=
      ⟨b0.kept (grownBy_putObj' _ D _) (by simp; omega), b1.kept (grownBy_putObj' _ D _) (by simp; omega), b2.kept (grownBy_putObj' _ D _) (by simp; omega), hb.trans (belowK_b (w := w) (Nat.le_refl _) _ D _ _ (by omega) hK rfl rfl)⟩
    have hKK := Lib.hid hK
    have HR : Hid (ReadS w s (.returned (.tuple #[.slice none 0 0, .int .i64 k, .int .i64 er])) (W.putObj D (.deferred none)) ∧ Below w.heap.size w (W.putObj D (.deferred none))) := Lib.hid ⟨.inr ⟨.inr hno, k, er, he0, hk0, hk30, rfl⟩, FIN.2.2.2⟩
    have c0 := FIN.1.cell; have c1 := FIN.2.1.cell; have c2 := FIN.2.2.1.cell
    have cl0 := FIN.1.lt; have cl1 := FIN.2.1.lt; have cl2 := FIN.2.2.1.lt
    clear hK FIN b0 b1 b2
    gi_wp2
    refine ⟨by simp, .inl ⟨_, _, rfl, run_takeDeferred hKK.out, ?_⟩⟩
    refine ⟨.tuple #[.slice none 0 0, .int .i64 k, .int .i64 er], ?_, (show ReadS w sb.data.toList _ _ ∧ _ by rw [hSL]; exact HR.out)⟩
    simp [results, Tryd.results23, go_sem, *]
end Go.Proofs.YtkmnacchiagipaaDoor
