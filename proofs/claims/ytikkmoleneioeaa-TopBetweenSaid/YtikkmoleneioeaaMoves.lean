/- compose's expand$1 and moves. -/
import Derived.Test.YtikkmoleneioeaaHop
import Derived.Test.YtikkmoleneioeaaHeap2
import Derived.Test.YtikkmoleneioeaaValid
import Derived.Deep.LoopGhost
import Derived.Deep.CutBlock
import Derived.Carry
namespace Go.Proofs.Ytikkmoleneioeaa
open Go.RowKit

theorem drewN_below (W : World) (k : Nat) : Below W.heap.size W (W.drewN k) := ⟨rfl, rfl, rfl, Nat.le_refl _, fun _ _ => rfl⟩
def hopCells (h : HopL) : List Value := [.int .i64 h.inn, .int .i64 h.out, .int .i64 h.wt, .int .i64 h.goes.a, .int .i64 h.goes.b, .int .i64 h.goes.f]
theorem eltHop : Elt Try.prog 86 92 (.agg #[.int .i64 0, .int .i64 0, .int .i64 0, .int .i64 0, .int .i64 0, .int .i64 0]) 6 48 := ⟨Try.underlying86, by kernel_rfl, rfl, by omega⟩
abbrev triA (t : TriL) : Array Value := #[.int .i64 t.a, .int .i64 t.b, .int .i64 t.f]
/-- expand's boxes, and the hops so far -/
structure ES (B pb tb wb ob : Nat) (p1 p2 p3 p4 : Value) (t : TriL) (W0 W : World) (l : List HopL) : Prop where
  pk : Blk W pb #[p1, p2, p3, p4] 89
  tk : Blk W tb (triA t) 83
  wk : Blk W wb #[.int .i64 0] 35
  q : ∃ A c, Blk W ob #[.slice A l.length c] 86 ∧ W.ownsRow B 92 6 (.slice A l.length c) l.length (l.flatMap hopCells)
  bel : Below B W0 W
  hw : B ≤ wb
  ho : B ≤ ob
  hB : B ≤ W0.heap.size
/-- what a call leaves as it was: boxes of other types -/
def Kept (ob : Nat) (W W' : World) : Prop := W.heap.size ≤ W'.heap.size ∧ ∀ (k : Nat) (cs : Array Value) (ty : TypeId), k ≠ ob → ty ≠ 92 → Blk W k cs ty → Blk W' k cs ty
theorem Kept.trans {ob : Nat} {W W' W'' : World} (h : Kept ob W W') (h' : Kept ob W' W'') : Kept ob W W'' := ⟨Nat.le_trans h.1 h'.1, fun k cs ty h1 h2 hb => h'.2 k cs ty h1 h2 (h.2 k cs ty h1 h2 hb)⟩
theorem Kept.below {ob : Nat} {W W' : World} (h : Below W.heap.size W W') : Kept ob W W' := ⟨h.size, fun _ _ _ _ _ hb => hb.step h⟩
section
variable {B pb tb wb ob : Nat} {p1 p2 p3 p4 : Value} {t : TriL} {W0 W W' : World} {l : List HopL}
theorem ES.keep (h : ES B pb tb wb ob p1 p2 p3 p4 t W0 W l) (hb : Below W.heap.size W W') : ES B pb tb wb ob p1 p2 p3 p4 t W0 W' l := by
  obtain ⟨A, c, h1, h2⟩ := h.q
  exact ⟨h.pk.step hb, h.tk.step hb, h.wk.step hb, ⟨A, c, h1.step hb, own_below h2 hb (Nat.le_refl _)⟩, h.bel.trans (hb.mono (Nat.le_trans h.hB h.bel.size)), h.hw, h.ho, h.hB⟩
theorem ES.ok (h : ES B pb tb wb ob p1 p2 p3 p4 t W0 W l) : ES B pb tb wb ob p1 p2 p3 p4 t W0 (W.setCell ⟨wb, 0, none⟩ (.int .i64 0)) l ∧ Kept ob W (W.setCell ⟨wb, 0, none⟩ (.int .i64 0)) := by
  have e : ∀ k, (W.setCell ⟨wb, 0, none⟩ (.int .i64 0)).heap[k]? = W.heap[k]? := fun k => by
    by_cases hk : k = wb
    · have h1 := h.wk.put 0 (.int .i64 0)
      have h2 := h.wk
      unfold Blk at h1 h2
      rw [hk, h1, h2]; simp
    · exact Below.heap_setCell _ _ _ _ hk
  have hb : Below W.heap.size W (W.setCell ⟨wb, 0, none⟩ (.int .i64 0)) := ⟨rfl, rfl, rfl, by simp [World.setCell], fun k _ => e k⟩
  exact ⟨h.keep hb, Kept.below hb⟩
theorem ES.app (h : ES B pb tb wb ob p1 p2 p3 p4 t W0 W l) {A : Option Addr} {c : Nat} (hq : Blk W ob #[.slice A l.length c] 86) (ho : W.ownsRow B 92 6 (.slice A l.length c) l.length (l.flatMap hopCells)) (x : HopL) (hg : W.grownBy W' (Value.slice A l.length c).ownBlock) {g cap : Nat}
    (hn : W'.ownsRow B 92 6 (.slice (some ⟨g, 0, none⟩) (l.length + 1) cap) (l.length + 1) (l.flatMap hopCells ++ (#[.int .i64 x.inn, .int .i64 x.out, .int .i64 x.wt, .int .i64 x.goes.a, .int .i64 x.goes.b, .int .i64 x.goes.f] : Array Value).toList)) (hat : (Value.slice A l.length c).ownBlock = some g ∨ W.heap.size ≤ g) (h1 : pb ≠ ob) (h2 : tb ≠ ob) (h3 : wb ≠ ob) :
    ES B pb tb wb ob p1 p2 p3 p4 t W0 (W'.setCell ⟨ob, 0, none⟩ (.slice (some ⟨g, 0, none⟩) (l.length + 1) cap)) (l ++ [x]) ∧ Kept ob W (W'.setCell ⟨ob, 0, none⟩ (.slice (some ⟨g, 0, none⟩) (l.length + 1) cap)) := by
  have ne : ∀ (k : Nat) (cs : Array Value) (ty : TypeId), ty ≠ 92 → Blk W k cs ty → some k ≠ (Value.slice A l.length c).ownBlock := fun k cs ty hty hb e => row_ne_blk ho hb (fun e2 => hty e2.symm) e.symm
  have kp : ∀ (k : Nat) (cs : Array Value) (ty : TypeId), k ≠ ob → ty ≠ 92 → Blk W k cs ty → Blk (W'.setCell ⟨ob, 0, none⟩ (.slice (some ⟨g, 0, none⟩) (l.length + 1) cap)) k cs ty := fun k cs ty hk hty hb => (hb.grown hg (ne k cs ty hty hb)).far hk _
  have hgo : g ≠ ob := by
    rcases hat with e | e
    · intro e2
      subst e2
      exact ne _ _ _ (by decide) hq e.symm
    · have := hq.lt; omega
  have bel1 : Below B W0 W' := below_app h.bel ho hg (Nat.le_refl _) (Nat.le_trans h.hB h.bel.size)
  refine ⟨⟨kp _ _ _ h1 (by decide) h.pk, kp _ _ _ h2 (by decide) h.tk, kp _ _ _ h3 (by decide) h.wk, ⟨some ⟨g, 0, none⟩, cap, ?_, ?_⟩, bel1.setCell h.ho _, h.hw, h.ho, h.hB⟩, by simp [World.setCell]; exact hg.size, kp⟩
  · refine ((hq.grown hg (ne _ _ _ (by decide) hq)).put 0 _).eq ?_
    rw [List.length_append]; simp
  · refine own_setCell ?_ (by simp [Value.ownBlock]; exact hgo) _
    rw [List.length_append, List.flatMap_append]
    simpa [hopCells] using hn
end

set_option maxRecDepth 100000 in
set_option maxHeartbeats 4000000 in
theorem do_any {B pb tb wb ob : Nat} {p1 p2 p3 p4 : Value} {t : TriL} {W0 : World} (W : World) (l : List HopL) (h : ES B pb tb wb ob p1 p2 p3 p4 t W0 W l) (hl : l.length + 1 ≤ 1000000) (h1 : pb ≠ ob) (h2 : tb ≠ ob) (h3 : wb ≠ ob) (xv yv : Value) (f : Int) (x : HopL)
    (hh : Calls Try.prog 57 #[.agg #[p1, p2, p3, p4], triV t, xv, yv, .int .i64 f] W fun e w' => e = .returned (.tuple #[hopV x, .int .i64 0]) ∧ Below W.heap.size W w') :
    Calls Try.prog 56 #[xv, yv, .int .i64 f, .pointer (some ⟨pb, 0, none⟩), .pointer (some ⟨tb, 0, none⟩), .pointer (some ⟨wb, 0, none⟩), .pointer (some ⟨ob, 0, none⟩)] W fun e w' => e = .returned (.bool true) ∧ ES B pb tb wb ob p1 p2 p3 p4 t W0 w' (l ++ [x]) ∧ Kept ob W w' := by
  have HS := Lib.hid h; have HH := Lib.hid hh
  have kp := h.pk.cell; have kt := h.tk.cell; have lp := h.pk.lt; have lt := h.tk.lt
  clear h hh
  go_enter Try.func56, Try.ntmps56
  go_wp2_with fail
  refine (HH.out).mono ?_; rintro e w1 ⟨rfl, b1⟩
  have HS1 := Lib.hid (HS.out.keep b1)
  have K1 := Lib.hid (Kept.below (ob := ob) b1)
  clear HH kp kt lp lt b1
  go_upto_region 2 with fail
  have X2 : Blk (w1.alloc (.cells #[.int .i64 x.inn, .int .i64 x.out, .int .i64 x.wt, .int .i64 x.goes.a, .int .i64 x.goes.b, .int .i64 x.goes.f] 92)) w1.heap.size _ _ := Blk.new _ _ _
  have b2 : Below w1.heap.size w1 (w1.alloc (.cells #[.int .i64 x.inn, .int .i64 x.out, .int .i64 x.wt, .int .i64 x.goes.a, .int .i64 x.goes.b, .int .i64 x.goes.f] 92)) := (by repeat' (first | exact Below.refl _ _ | assumption | refine Below.drew ?_ | refine Below.alloc ?_ (by first | omega | (simp; done) | (simp; omega)) _ | refine Below.setCell ?_ (by first | omega | (simp; done) | (simp; omega)) _))
  have HS2 := Lib.hid (HS1.out.keep b2)
  have K2 := Lib.hid (K1.out.trans (Kept.below b2))
  have hxw : w1.heap.size ≠ wb := fun e => by have := HS1.out.wk.lt; omega
  clear HS1 K1 b2
  generalize w1.alloc (.cells #[.int .i64 x.inn, .int .i64 x.out, .int .i64 x.wt, .int .i64 x.goes.a, .int .i64 x.goes.b, .int .i64 x.goes.f] 92) = w2 at *
  generalize w1.heap.size = xb at *
  have kw := HS2.out.wk.cell; have fw := HS2.out.wk.froz; have lw := HS2.out.wk.lt
  go_upto_region 3 with fail
  obtain ⟨hs3, hk3⟩ := HS2.out.ok
  have HS3 := Lib.hid hs3; have K3 := Lib.hid (K2.out.trans hk3)
  have X3 := X2.far (a := ⟨wb, 0, none⟩) hxw (.int .i64 0)
  clear HS2 K2 X2 hs3 hk3 kw fw lw
  generalize w2.setCell ⟨wb, 0, none⟩ (.int .i64 0) = w3 at *
  obtain ⟨A, c, hq, hO⟩ := HS3.out.q
  have HQ := Lib.hid hq; have HO := Lib.hid hO
  have kx := X3.cell; have lx := X3.lt; have ko := hq.cell; have lo := hq.lt; have fo := hq.froz
  have hB3 : B ≤ w3.heap.size := Nat.le_trans HS3.out.hB HS3.out.bel.size
  clear hq hO
  go_wp2_with (at_builtin; refine wpList_app1 rfl _ _ rfl eltHop B (.slice A l.length c) l.length (l.flatMap hopCells) rfl w3 HO.out #[.int .i64 x.inn, .int .i64 x.out, .int .i64 x.wt, .int .i64 x.goes.a, .int .i64 x.goes.b, .int .i64 x.goes.f] rfl w3.heap.size rfl rfl rfl (by simp [Value.oneCell']) (by omega) (by omega) hB3 ?_; intro g cap w4 hown hg hat hlt4; have kq4 := (HQ.out.grown hg (fun e => row_ne_blk HO.out HQ.out (by decide) e.symm)).cell; have fq4 := (HQ.out.grown hg (fun e => row_ne_blk HO.out HQ.out (by decide) e.symm)).froz; have lq4 := (HQ.out.grown hg (fun e => row_ne_blk HO.out HQ.out (by decide) e.symm)).lt)
  obtain ⟨hs5, hk5⟩ := HS3.out.app HQ.out HO.out x hg hown (hat.imp id (fun h => Nat.le_of_lt h)) h1 h2 h3
  have HS5 := Lib.hid hs5; have K5 := Lib.hid (K3.out.trans hk5)
  clear hown hg hat hlt4 hs5 hk5
  go_ret
  exact ⟨rfl, HS5.out, K5.out⟩

theorem hopsL_len (t : TriL) (right : List ArcL) (x : ArcL) : (hopsL t right x).length ≤ right.length + 1 := by
  unfold hopsL
  have := List.length_filter_le (meet t.f x) right
  rw [List.length_append, List.length_map]
  split <;> simp <;> omega
theorem left_len (t : TriL) (right left : List ArcL) : ∀ k, ((left.take k).flatMap (hopsL t right)).length ≤ k * (right.length + 1) := by
  intro k
  induction k with
  | zero => simp
  | succ k ih =>
    by_cases hk : k < left.length
    · rw [List.take_succ_eq_append_getElem hk, List.flatMap_append, List.length_append, Nat.succ_mul]
      have := hopsL_len t right left[k]
      simp only [List.flatMap_cons, List.flatMap_nil, List.append_nil]
      omega
    · have e : left.take (k + 1) = left.take k := by rw [List.take_of_length_le (by omega), List.take_of_length_le (by omega)]
      rw [e, Nat.succ_mul]; omega
def rightTo (t : TriL) (right : List ArcL) (j : Nat) : List HopL := ((right.take j).filter (fun y => y.inn == 0 && t.f != 1)).map (hopR t)
def bothTo (t : TriL) (right : List ArcL) (x : ArcL) (j : Nat) : List HopL := ((right.take j).filter (meet t.f x)).map (hopB x)
theorem rightTo_succ (t : TriL) (right : List ArcL) (j : Nat) (hj : j < right.length) : rightTo t right (j + 1) = rightTo t right j ++ if (right[j].inn == 0 && t.f != 1) = true then [hopR t right[j]] else [] := by
  unfold rightTo
  rw [List.take_succ_eq_append_getElem hj, List.filter_append, List.map_append, List.filter_cons]
  split <;> rfl
theorem bothTo_succ (t : TriL) (right : List ArcL) (x : ArcL) (j : Nat) (hj : j < right.length) : bothTo t right x (j + 1) = bothTo t right x j ++ if meet t.f x right[j] = true then [hopB x right[j]] else [] := by
  unfold bothTo
  rw [List.take_succ_eq_append_getElem hj, List.filter_append, List.map_append, List.filter_cons]
  split <;> rfl
theorem rightTo_len (t : TriL) (right : List ArcL) (j : Nat) : (rightTo t right j).length ≤ j := by
  unfold rightTo
  rw [List.length_map]
  exact Nat.le_trans (List.length_filter_le _ _) (by simp; omega)
theorem bothTo_len (t : TriL) (right : List ArcL) (x : ArcL) (j : Nat) : (bothTo t right x j).length ≤ j := by
  unfold bothTo
  rw [List.length_map]
  exact Nat.le_trans (List.length_filter_le _ _) (by simp; omega)
theorem arcCells_of {w : World} {A : Option Addr} {l : List ArcL} (h : ArcsAt w A l) (i : Nat) (hi : i < l.length) : ArcCells w (blk A) (ofs A + i * 4) l[i] :=
  ⟨h.c0 i hi, h.c1 i hi, h.c2 i hi, h.c3 i hi, World.block_lt_of_cell? _ _ (h.c0 i hi)⟩

set_option maxRecDepth 100000 in
set_option maxHeartbeats 8000000 in
theorem moves_any (a b : MachL) (AA AB : Option Addr) (ca cb : Nat) (t : TriL) (pb tb wb ob : Nat) (w W : World) (sA : StatesAt w AA a.states) (sB : StatesAt w AB b.states) (hva : Valid a) (hvb : Valid b) (ht : t.a < a.states.length ∧ t.b < b.states.length ∧ t.f ≤ 2)
    (hWt : ∀ x ∈ arcsQ a t.a, ∀ y ∈ arcsQ b t.b, x.wt + y.wt ≤ 1000000000) (h : ES w.heap.size pb tb wb ob (.int .i64 a.start) (.slice AA a.states.length ca) (.int .i64 b.start) (.slice AB b.states.length cb) t w W []) (h1 : pb ≠ ob) (h2 : tb ≠ ob) (h3 : wb ≠ ob) :
    Calls Try.prog 55 #[.agg #[.int .i64 a.start, .slice AA a.states.length ca, .int .i64 b.start, .slice AB b.states.length cb], triV t, .func (.func 56) #[] #[.pointer (some ⟨pb, 0, none⟩), .pointer (some ⟨tb, 0, none⟩), .pointer (some ⟨wb, 0, none⟩), .pointer (some ⟨ob, 0, none⟩)]] W fun e w' => e = .returned (.tuple #[]) ∧ ES w.heap.size pb tb wb ob (.int .i64 a.start) (.slice AA a.states.length ca) (.int .i64 b.start) (.slice AB b.states.length cb) t w w' (hopsX a b t) ∧ Kept ob W w' := by
  obtain ⟨ht1, ht2, ht3⟩ := ht
  have rdA := sA.rdy; have rdB := sB.rdy
  obtain ⟨AL, cL, d1, sL⟩ := sA.c1 t.a ht1
  obtain ⟨AR, cR, d2, sR⟩ := sB.c1 t.b ht2
  have hqa : arcsQ a t.a = a.states[t.a].arcs := by unfold arcsQ; rw [List.getElem?_eq_getElem ht1]; rfl
  have hqb : arcsQ b t.b = b.states[t.b].arcs := by unfold arcsQ; rw [List.getElem?_eq_getElem ht2]; rfl
  have hXE : hopsX a b t = (a.states[t.a].arcs).flatMap (hopsL t b.states[t.b].arcs) ++ hopsR t b.states[t.b].arcs := by unfold hopsX; rw [hqa, hqb]
  have hvL := (hva.st _ (List.getElem_mem ht1)).2; have hvR := (hvb.st _ (List.getElem_mem ht2)).2
  have hlL : a.states[t.a].arcs.length ≤ 400 := by have := hva.arcs; have := arcs_le_of a.states _ (List.getElem_mem ht1); omega
  have hlR : b.states[t.b].arcs.length ≤ 400 := by have := hvb.arcs; have := arcs_le_of b.states _ (List.getElem_mem ht2); omega
  rw [hqa, hqb] at hWt
  rw [hXE]
  generalize a.states[t.a].arcs = left at *
  generalize b.states[t.b].arcs = right at *
  have HSL := Lib.hid sL; have HSR := Lib.hid sR; have HVL := Lib.hid hvL; have HVR := Lib.hid hvR; have HWT := Lib.hid hWt
  have HS := Lib.hid h
  have e1 := cell_keep h.bel (Nat.le_refl _) d1; have e2 := cell_keep h.bel (Nat.le_refl _) d2
  have le1 := World.block_lt_of_cell? _ _ e1; have le2 := World.block_lt_of_cell? _ _ e2
  have rdL := sL.rdy; have rdR := sR.rdy
  have hWs : w.heap.size ≤ W.heap.size := h.bel.size
  have hobW : ob < W.heap.size := by obtain ⟨_, _, hq, -⟩ := h.q; exact hq.lt
  clear sL sR hvL hvR hWt h hqa hqb hXE sA sB hva hvb d1 d2
  unfold triV
  have ta0 : (0 : Int) ≤ ↑t.a := by omega
  have tb0 : (0 : Int) ≤ ↑t.b := by omega
  have ta1 : (↑t.a : Int) < ↑a.states.length := by omega
  have tb1 : (↑t.b : Int) < ↑b.states.length := by omega
  go_enter Try.func55, Try.ntmps55
  go_upto_region 1 with fail
  have P3 : Hid (Blk ((W.alloc (.cells #[.int .i64 a.start, .slice AA a.states.length ca, .int .i64 b.start, .slice AB b.states.length cb] 89)).alloc (.cells #[.int .i64 t.a, .int .i64 t.b, .int .i64 t.f] 83)) W.heap.size #[.int .i64 a.start, .slice AA a.states.length ca, .int .i64 b.start, .slice AB b.states.length cb] 89) := Lib.hid ((Blk.new _ _ _).alloc _)
  have P4 : Hid (Blk ((W.alloc (.cells #[.int .i64 a.start, .slice AA a.states.length ca, .int .i64 b.start, .slice AB b.states.length cb] 89)).alloc (.cells #[.int .i64 t.a, .int .i64 t.b, .int .i64 t.f] 83)) (W.heap.size + 1) #[.int .i64 t.a, .int .i64 t.b, .int .i64 t.f] 83) := Lib.hid (Blk.new' (by simp))
  have bel : Below W.heap.size W ((W.alloc (.cells #[.int .i64 a.start, .slice AA a.states.length ca, .int .i64 b.start, .slice AB b.states.length cb] 89)).alloc (.cells #[.int .i64 t.a, .int .i64 t.b, .int .i64 t.f] 83)) := (by repeat' (first | exact Below.refl _ _ | assumption | refine Below.drew ?_ | refine Below.alloc ?_ (by first | omega | (simp; done) | (simp; omega)) _ | refine Below.setCell ?_ (by first | omega | (simp; done) | (simp; omega)) _))
  have HS1 := Lib.hid (HS.out.keep bel)
  have K1 := Lib.hid (Kept.below (ob := ob) bel)
  have f1 := cell_keep bel (Nat.le_refl _) e1; have f2 := cell_keep bel (Nat.le_refl _) e2
  have lf1 := Nat.lt_of_lt_of_le le1 bel.size; have lf2 := Nat.lt_of_lt_of_le le2 bel.size
  clear HS e1 e2 le1 le2 bel
  have hb3 : W.heap.size ≠ ob := by omega
  have hb4 : W.heap.size + 1 ≠ ob := by omega
  generalize (W.alloc (.cells #[.int .i64 a.start, .slice AA a.states.length ca, .int .i64 b.start, .slice AB b.states.length cb] 89)).alloc (.cells #[.int .i64 t.a, .int .i64 t.b, .int .i64 t.f] 83) = W1 at *
  generalize W.heap.size + 1 = b4 at *
  generalize hb3e : W.heap.size = b3 at *
  have k3 := P3.out.cell; have l3 := P3.out.lt; have k4 := P4.out.cell; have l4 := P4.out.lt
  go_quiet (fail)
  have bd := drewN_below W1 nq
  have HS2 := Lib.hid (HS1.out.keep bd); have K2 := Lib.hid (K1.out.trans (Kept.below (ob := ob) bd))
  have P5 := Lib.hid (P3.out.step bd); have P6 := Lib.hid (P4.out.step bd)
  clear HS1 K1 P3 P4 k3 l3 k4 l4 f1 f2 lf1 lf2 bd
  generalize W1.drewN nq = W2 at *
  go_upto_region 3 with fail
  go_loopw [32] (fun iv wx => ∃ k : Nat, k ≤ left.length ∧ iv = .int .i64 k ∧ ES w.heap.size pb tb wb ob (.int .i64 a.start) (.slice AA a.states.length ca) (.int .i64 b.start) (.slice AB b.states.length cb) t w wx ((left.take k).flatMap (hopsL t right)) ∧ Kept ob W wx ∧ Blk wx b4 #[.int .i64 t.a, .int .i64 t.b, .int .i64 t.f] 83) (fun iv _ => left.length - (intOf iv).toNat)
  case atStart => exact ⟨0, by omega, rfl, by simpa using HS2.out, K2.out, P6.out⟩
  case round =>
    obtain ⟨k, hk, rfl, hS, hK, hP⟩ := hrel
    have HSk := Lib.hid hS; have HKk := Lib.hid hK; have HPk := Lib.hid hP
    have hll := left_len t right left k
    have hll2 : k * (right.length + 1) ≤ 400 * 401 := Nat.mul_le_mul (by omega) (by omega)
    clear hS hK hP
    have j0 : (0 : Int) ≤ (k : Int) := by omega
    by_cases hlt : k < left.length
    · have j1 : (k : Int) < (left.length : Int) := by omega
      have hsucc : (left.take (k + 1)).flatMap (hopsL t right) = (left.take k).flatMap (hopsL t right) ++ hopsL t right left[k] := by
        rw [List.take_succ_eq_append_getElem hlt, List.flatMap_append]; simp
      have hCX : ArcCells w (blk AL) (ofs AL + k * 4) left[k] := arcCells_of HSL.out k hlt
      have hvx := HVL.out _ (List.getElem_mem hlt)
      have hwx := HWT.out _ (List.getElem_mem hlt)
      generalize (left.take k).flatMap (hopsL t right) = l0 at *
      generalize left[k] = x at *
      have HSU := Lib.hid hsucc; have HCX := Lib.hid hCX; have HVX := Lib.hid hvx; have HWX := Lib.hid hwx
      clear hsucc hCX hvx hwx
      obtain ⟨wo, rfl⟩ : ∃ wo : World, wo = wr := ⟨_, rfl⟩
      go_upto_region 7 with fail
      go_loopw [40] (fun jv wx => ∃ j : Nat, j ≤ right.length ∧ jv = .int .i64 j ∧ ES w.heap.size pb tb wb ob (.int .i64 a.start) (.slice AA a.states.length ca) (.int .i64 b.start) (.slice AB b.states.length cb) t w wx (l0 ++ bothTo t right x j) ∧ Kept ob W wx ∧ Blk wx b4 #[.int .i64 t.a, .int .i64 t.b, .int .i64 t.f] 83) (fun jv _ => right.length - (intOf jv).toNat)
      case atStart => exact ⟨0, by omega, rfl, by simpa [bothTo] using HSk.out, HKk.out, HPk.out⟩
      case round =>
        obtain ⟨j, hj, rfl, hS, hK, hP⟩ := hrel
        have HSj := Lib.hid hS; have HKj := Lib.hid hK; have HPj := Lib.hid hP
        have hbl := bothTo_len t right x j
        have i0 : (0 : Int) ≤ (j : Int) := by omega
        have cx := (HCX.out.step hS.bel (Nat.le_refl _))
        have x0 := cx.c0; have x1 := cx.c1; have lx := cx.lt
        clear hS hK hP
        by_cases hlt2 : j < right.length
        · have i1 : (j : Int) < (right.length : Int) := by omega
          have hCY : ArcCells w (blk AR) (ofs AR + j * 4) right[j] := arcCells_of HSR.out j hlt2
          have hvy := HVR.out _ (List.getElem_mem hlt2)
          have hwy := HWX.out _ (List.getElem_mem hlt2)
          have hsu := bothTo_succ t right x j hlt2
          generalize right[j] = y at *
          have cy := (hCY.step HSj.out.bel (Nat.le_refl _))
          have y0 := cy.c0; have y1 := cy.c1; have ly := cy.lt
          have HCY := Lib.hid hCY; have HVY := Lib.hid hvy; have HWY := Lib.hid hwy; have HSU2 := Lib.hid hsu
          have kf := HPj.out.cell; have lf := HPj.out.lt
          clear hCY hvy hwy hsu cx cy
          go_upto_region 10 with fail
          go_cut [12] (fun bv wx => bv = .bool (meet t.f x y) ∧ Below wr.heap.size wr wx)
          case first =>
            by_cases h9 : x.out = y.inn
            · have q1 : (x.out == y.inn) = true := by simpa using h9
              by_cases h8 : x.out = 0
              · have q2 : (x.out != 0) = false := by simpa using h8
                have q2' : (x.out == 0) = true := by simpa using h8
                by_cases h7 : t.f = 0
                · have q3 : ((t.f : Int) == 0) = true := by simp [h7]
                  have HR : Hid (meet t.f x y = true) := Lib.hid (by unfold meet; simp [h9, h7])
                  clear h9 h8 h7
                  go_quiet (fail)
                  go_wp2_with fail
                  go_meet
                  case rel => exact ⟨by rw [HR.out], drewN_below _ _⟩
                · have q3 : ((t.f : Int) == 0) = false := by simp; omega
                  have HR : Hid (meet t.f x y = false) := Lib.hid (by unfold meet; simp [h8, h7])
                  clear h9 h8 h7
                  go_quiet (fail)
                  go_wp2_with fail
                  go_meet
                  case rel => exact ⟨by rw [HR.out], drewN_below _ _⟩
              · have q2 : (x.out != 0) = true := by simpa using h8
                have q2' : (x.out == 0) = false := by simpa using h8
                have HR : Hid (meet t.f x y = true) := Lib.hid (by unfold meet; rw [q1, q2]; rfl)
                clear h9 h8
                go_quiet (fail)
                go_wp2_with fail
                go_meet
                case rel => exact ⟨by rw [HR.out], drewN_below _ _⟩
            · have q1 : (x.out == y.inn) = false := by simpa using h9
              have HR : Hid (meet t.f x y = false) := Lib.hid (by unfold meet; rw [q1]; rfl)
              clear h9
              go_quiet (fail)
              go_wp2_with fail
              go_meet
              case rel => exact ⟨by rw [HR.out], drewN_below _ _⟩
          case rest =>
            obtain ⟨rfl, bc⟩ := hcut
            have HSc := Lib.hid (HSj.out.keep bc); have HKc := Lib.hid (HKj.out.trans (Kept.below bc)); have HPc := Lib.hid (HPj.out.step bc)
            have cx := (HCX.out.step HSc.out.bel (Nat.le_refl _)); have cy := (HCY.out.step HSc.out.bel (Nat.le_refl _))
            have HCX2 := Lib.hid cx; have HCY2 := Lib.hid cy
            clear HSj HKj HPj bc x0 x1 lx y0 y1 ly kf lf cx cy
            by_cases hm : meet t.f x y = true
            · have HD := Lib.hid (do_any wc _ HSc.out (by rw [List.length_append]; omega) h1 h2 h3 (.pointer (some ⟨blk AL, ofs AL + k * 4, none⟩)) (.pointer (some ⟨blk AR, ofs AR + j * 4, none⟩)) 0 (hopB x y) (hop_both _ _ _ _ t _ _ _ _ x y _ _ wc HCX2.out HVX.out HCY2.out HVY.out HWY.out))
              have HSU3 := Lib.hid (HSU2.out.trans (by rw [if_pos hm]))
              rw [hm]
              clear HSU2 hm
              go_wp2_with fail
              refine HD.out.mono ?_; rintro e w5 ⟨rfl, hs5, hk5⟩
              rw [List.append_assoc, ← HSU3.out] at hs5
              have HS5 := Lib.hid hs5; have HK5 := Lib.hid (HKc.out.trans hk5)
              have HP5 := Lib.hid (hk5.2 _ _ _ hb4 (by decide) HPc.out)
              clear hs5 hk5 HSc HKc HPc HD
              go_wp2_with fail
              go_roundw
              case rel => exact ⟨j + 1, by omega, by go_num, HS5.out, HK5.out, HP5.out⟩
              case measure => simp [intOf]; omega
            · have hm' : meet t.f x y = false := by simpa using hm
              have HSU3 := Lib.hid (HSU2.out.trans (by rw [if_neg hm, List.append_nil]))
              rw [hm']
              clear HSU2 hm hm'
              go_wp2_with fail
              go_roundw
              case rel => exact ⟨j + 1, by omega, by go_num, by rw [HSU3.out]; exact HSc.out, HKc.out, HPc.out⟩
              case measure => simp [intOf]; omega
        · obtain rfl : j = right.length := by omega
          have i1 : ¬ (↑right.length : Int) < ↑right.length := by omega
          have HFX : Hid (hopsL t right x = bothTo t right x right.length ++ if x.out = 0 ∧ t.f ≠ 2 then [hopLt t x] else []) := Lib.hid (by unfold hopsL bothTo; rw [List.take_length])
          have kf := HPj.out.cell; have lf := HPj.out.lt
          have HCX2 := Lib.hid (HCX.out.step HSj.out.bel (Nat.le_refl _))
          by_cases h9 : x.out = 0
          · have q1 : (x.out == 0) = true := by simpa using h9
            by_cases h8 : t.f = 2
            · have q2 : ((t.f : Int) != 2) = false := by simp [h8]
              have HR := Lib.hid (HSU.out.trans (by rw [HFX.out, if_neg (fun h => h.2 h8), List.append_nil]))
              clear h9 h8
              go_wp2_with fail
              go_roundw
              case rel => exact ⟨k + 1, by omega, by go_num, by rw [HR.out]; exact HSj.out, HKj.out, HPj.out⟩
              case measure => simp [intOf]; omega
            · have q2 : ((t.f : Int) != 2) = true := by simp; omega
              have HR := Lib.hid (HSU.out.trans (by rw [HFX.out, if_pos ⟨h9, h8⟩]))
              have HD := Lib.hid (do_any wr _ HSj.out (by rw [List.length_append]; omega) h1 h2 h3 (.pointer (some ⟨blk AL, ofs AL + k * 4, none⟩)) (.pointer none) 1 (hopLt t x) (hop_left _ _ _ _ t _ _ x _ wr HCX2.out HVX.out))
              clear h9 h8
              go_wp2_with fail
              refine HD.out.mono ?_; rintro e w5 ⟨rfl, hs5, hk5⟩
              rw [List.append_assoc, ← HR.out] at hs5
              have HS5 := Lib.hid hs5; have HK5 := Lib.hid (HKj.out.trans hk5)
              have HP5 := Lib.hid (hk5.2 _ _ _ hb4 (by decide) HPj.out)
              clear hs5 hk5 HD
              go_wp2_with fail
              go_roundw
              case rel => exact ⟨k + 1, by omega, by go_num, HS5.out, HK5.out, HP5.out⟩
              case measure => simp [intOf]; omega
          · have q1 : (x.out == 0) = false := by simpa using h9
            have HR := Lib.hid (HSU.out.trans (by rw [HFX.out, if_neg (fun h => h9 h.1), List.append_nil]))
            clear h9
            go_wp2_with fail
            go_roundw
            case rel => exact ⟨k + 1, by omega, by go_num, by rw [HR.out]; exact HSj.out, HKj.out, HPj.out⟩
            case measure => simp [intOf]; omega
    · obtain rfl : k = left.length := by omega
      have j1 : ¬ (↑left.length : Int) < ↑left.length := by omega
      rw [List.take_length] at HSk hll
      generalize hl0 : left.flatMap (hopsL t right) = l0 at *
      have HL0 := Lib.hid hl0; clear hl0
      have HF : Hid (hopsR t right = rightTo t right right.length) := Lib.hid (by unfold hopsR rightTo; rw [List.take_length])
      go_upto_region 16 with fail
      go_loopw [95] (fun jv wx => ∃ j : Nat, j ≤ right.length ∧ jv = .int .i64 j ∧ ES w.heap.size pb tb wb ob (.int .i64 a.start) (.slice AA a.states.length ca) (.int .i64 b.start) (.slice AB b.states.length cb) t w wx (l0 ++ rightTo t right j) ∧ Kept ob W wx ∧ Blk wx b4 #[.int .i64 t.a, .int .i64 t.b, .int .i64 t.f] 83) (fun jv _ => right.length - (intOf jv).toNat)
      case atStart => exact ⟨0, by omega, rfl, by simpa [rightTo] using HSk.out, HKk.out, HPk.out⟩
      case round =>
        obtain ⟨j, hj, rfl, hS, hK, hP⟩ := hrel
        have HSj := Lib.hid hS; have HKj := Lib.hid hK; have HPj := Lib.hid hP
        have hbl := rightTo_len t right j
        have i0 : (0 : Int) ≤ (j : Int) := by omega
        clear hS hK hP
        by_cases hlt2 : j < right.length
        · have i1 : (j : Int) < (right.length : Int) := by omega
          have hCY : ArcCells w (blk AR) (ofs AR + j * 4) right[j] := arcCells_of HSR.out j hlt2
          have hvy := HVR.out _ (List.getElem_mem hlt2)
          have hsu := rightTo_succ t right j hlt2
          generalize right[j] = y at *
          have HCY := Lib.hid (hCY.step HSj.out.bel (Nat.le_refl _)); have HVY := Lib.hid hvy
          have y0 := HCY.out.c0; have ly := HCY.out.lt
          have kf := HPj.out.cell; have lf := HPj.out.lt
          clear hCY hvy
          by_cases h9 : y.inn = 0
          · have q1 : (y.inn == 0) = true := by simpa using h9
            by_cases h8 : t.f = 1
            · have q2 : ((t.f : Int) != 1) = false := by simp [h8]
              have HR := Lib.hid (hsu.trans (by rw [if_neg (by simp [h8]), List.append_nil]))
              clear h9 h8 hsu
              go_wp2_with fail
              go_roundw
              case rel => exact ⟨j + 1, by omega, by go_num, by rw [HR.out]; exact HSj.out, HKj.out, HPj.out⟩
              case measure => simp [intOf]; omega
            · have q2 : ((t.f : Int) != 1) = true := by simp; omega
              have HR := Lib.hid (hsu.trans (by rw [if_pos (by simp [h9, h8])]))
              have HD := Lib.hid (do_any wr _ HSj.out (by rw [List.length_append]; omega) h1 h2 h3 (.pointer none) (.pointer (some ⟨blk AR, ofs AR + j * 4, none⟩)) 2 (hopR t y) (hop_right _ _ _ _ t _ _ y _ wr HCY.out HVY.out))
              clear h9 h8 hsu
              go_wp2_with fail
              refine HD.out.mono ?_; rintro e w5 ⟨rfl, hs5, hk5⟩
              rw [List.append_assoc, ← HR.out] at hs5
              have HS5 := Lib.hid hs5; have HK5 := Lib.hid (HKj.out.trans hk5)
              have HP5 := Lib.hid (hk5.2 _ _ _ hb4 (by decide) HPj.out)
              clear hs5 hk5 HD
              go_wp2_with fail
              go_roundw
              case rel => exact ⟨j + 1, by omega, by go_num, HS5.out, HK5.out, HP5.out⟩
              case measure => simp [intOf]; omega
          · have q1 : (y.inn == 0) = false := by simpa using h9
            have HR := Lib.hid (hsu.trans (by rw [if_neg (by simp [h9]), List.append_nil]))
            clear h9 hsu
            go_wp2_with fail
            go_roundw
            case rel => exact ⟨j + 1, by omega, by go_num, by rw [HR.out]; exact HSj.out, HKj.out, HPj.out⟩
            case measure => simp [intOf]; omega
        · obtain rfl : j = right.length := by omega
          have i1 : ¬ (↑right.length : Int) < ↑right.length := by omega
          go_wp2_with fail
          go_end0
          exact ⟨rfl, by rw [HF.out, HL0.out]; exact HSj.out, HKj.out⟩
end Go.Proofs.Ytikkmoleneioeaa
