/- compose's expand, both and Expand. -/
import Derived.Test.YtikkmoleneioeaaMoves
namespace Go.Proofs.Ytikkmoleneioeaa
open Go.RowKit

/-- weights of two machines that fit -/
theorem WtOk.fin {a b : MachL} {W1 W2 : Int} (h : WtOk a b W1 W2) (ha : Valid a) (hb : Valid b) (t : TriL) (ht : t.a < a.states.length ∧ t.b < b.states.length) : ∀ W, Calls Try.prog 54 #[.int .i64 (finQ a t.a), .int .i64 (finQ b t.b)] W fun e w' => e = .returned (.tuple #[.int .i64 (finT a b t), .int .i64 0]) ∧ W = w' := by
  intro W
  have e1 : finQ a t.a = a.states[t.a].final := by unfold finQ; rw [List.getElem?_eq_getElem ht.1]; rfl
  have e2 : finQ b t.b = b.states[t.b].final := by unfold finQ; rw [List.getElem?_eq_getElem ht.2]; rfl
  have v1 := (ha.st _ (List.getElem_mem ht.1)).1; have v2 := (hb.st _ (List.getElem_mem ht.2)).1
  rw [← e1] at v1
  rw [← e2] at v2
  have f1 := h.f1 t.a; have f2 := h.f2 t.b; have hle := h.le; have hi : INF = 1000000001 := rfl
  unfold finT timesI
  unfold ValidFinal at v1 v2
  by_cases hc : finQ a t.a = INF ∨ finQ b t.b = INF
  · rw [if_pos hc]
    exact Times_inf _ _ W (by omega) (by omega) (by omega) (by omega) hc
  · rw [if_neg hc]
    have g1 := f1 (fun e => hc (.inl e)); have g2 := f2 (fun e => hc (.inr e))
    have n1 : ¬ finQ a t.a = 1000000001 := fun e => hc (.inl e)
    have n2 : ¬ finQ b t.b = 1000000001 := fun e => hc (.inr e)
    exact Times_ok _ _ W (by omega) (by omega) (by omega) (by omega) (by omega)
theorem Times_same {a b c : Int} {W : World} (h : Calls Try.prog 54 #[.int .i64 a, .int .i64 b] W fun e w' => e = .returned (.tuple #[.int .i64 c, .int .i64 0]) ∧ W = w') : Calls Try.prog 54 #[.int .i64 a, .int .i64 b] W fun e w' => e = .returned (.tuple #[.int .i64 c, .int .i64 0]) ∧ w' = W := h.mono fun _ _ g => ⟨g.1, g.2.symm⟩
set_option maxRecDepth 100000 in
set_option maxHeartbeats 8000000 in
theorem expand_any (a b : MachL) (AA AB : Option Addr) (ca cb : Nat) (t : TriL) (W1 W2 : Int) (w : World) (sA : StatesAt w AA a.states) (sB : StatesAt w AB b.states) (hva : Valid a) (hvb : Valid b) (ht : t.a < a.states.length ∧ t.b < b.states.length ∧ t.f ≤ 2) (hW : WtOk a b W1 W2) :
    Calls Try.prog 36 #[.agg #[.int .i64 a.start, .slice AA a.states.length ca, .int .i64 b.start, .slice AB b.states.length cb], triV t] w fun e w' => ∃ A c, e = .returned (.tuple #[.int .i64 (finT a b t), .slice A (hopsX a b t).length c, .int .i64 0]) ∧ w'.ownsRow w.heap.size 92 6 (.slice A (hopsX a b t).length c) (hopsX a b t).length ((hopsX a b t).flatMap hopCells) ∧ Below w.heap.size w w' := by
  have TM := Lib.hid (hW.fin hva hvb t ⟨ht.1, ht.2.1⟩)
  have MV := Lib.hid (fun pb tb wb ob W h h1 h2 h3 => moves_any a b AA AB ca cb t pb tb wb ob w W sA sB hva hvb ht (fun x hx y hy => by have := hW.w1 _ x hx; have := hW.w2 _ y hy; have := hW.le; omega) h h1 h2 h3)
  obtain ⟨ht1, ht2, ht3⟩ := ht
  have rdA := sA.rdy; have rdB := sB.rdy
  have d1 := sA.c0 t.a ht1; have d2 := sB.c0 t.b ht2
  have e1 : finQ a t.a = a.states[t.a].final := by unfold finQ; rw [List.getElem?_eq_getElem ht1]; rfl
  have e2 : finQ b t.b = b.states[t.b].final := by unfold finQ; rw [List.getElem?_eq_getElem ht2]; rfl
  rw [← e1] at d1
  rw [← e2] at d2
  generalize finT a b t = ft at *
  generalize finQ a t.a = fa at *
  generalize finQ b t.b = fb at *
  have ta0 : (0 : Int) ≤ ↑t.a := by omega
  have tb0 : (0 : Int) ≤ ↑t.b := by omega
  have ta1 : (↑t.a : Int) < ↑a.states.length := by omega
  have tb1 : (↑t.b : Int) < ↑b.states.length := by omega
  have le1 := World.block_lt_of_cell? _ _ d1; have le2 := World.block_lt_of_cell? _ _ d2
  clear e1 e2 sA sB hva hvb hW
  unfold triV
  go_enter Try.func36, Try.ntmps36
  go_upto_region 1 with fail
  have P3 : Hid (Blk ((w.alloc (.cells #[.int .i64 a.start, .slice AA a.states.length ca, .int .i64 b.start, .slice AB b.states.length cb] 89)).alloc (.cells #[.int .i64 t.a, .int .i64 t.b, .int .i64 t.f] 83)) w.heap.size #[.int .i64 a.start, .slice AA a.states.length ca, .int .i64 b.start, .slice AB b.states.length cb] 89) := Lib.hid ((Blk.new _ _ _).alloc _)
  have P4 : Hid (Blk ((w.alloc (.cells #[.int .i64 a.start, .slice AA a.states.length ca, .int .i64 b.start, .slice AB b.states.length cb] 89)).alloc (.cells #[.int .i64 t.a, .int .i64 t.b, .int .i64 t.f] 83)) (w.heap.size + 1) #[.int .i64 t.a, .int .i64 t.b, .int .i64 t.f] 83) := Lib.hid (Blk.new' (by simp))
  have bel : Below w.heap.size w ((w.alloc (.cells #[.int .i64 a.start, .slice AA a.states.length ca, .int .i64 b.start, .slice AB b.states.length cb] 89)).alloc (.cells #[.int .i64 t.a, .int .i64 t.b, .int .i64 t.f] 83)) := (by repeat' (first | exact Below.refl _ _ | assumption | refine Below.drew ?_ | refine Below.alloc ?_ (by first | omega | (simp; done) | (simp; omega)) _ | refine Below.setCell ?_ (by first | omega | (simp; done) | (simp; omega)) _))
  have f1 := cell_keep bel (Nat.le_refl _) d1; have f2 := cell_keep bel (Nat.le_refl _) d2
  have lf1 := Nat.lt_of_lt_of_le le1 bel.size; have lf2 := Nat.lt_of_lt_of_le le2 bel.size
  have hz : ((w.alloc (.cells #[.int .i64 a.start, .slice AA a.states.length ca, .int .i64 b.start, .slice AB b.states.length cb] 89)).alloc (.cells #[.int .i64 t.a, .int .i64 t.b, .int .i64 t.f] 83)).heap.size = w.heap.size + 2 := by simp
  have HZ := Lib.hid hz
  clear d1 d2 le1 le2 hz
  generalize (w.alloc (.cells #[.int .i64 a.start, .slice AA a.states.length ca, .int .i64 b.start, .slice AB b.states.length cb] 89)).alloc (.cells #[.int .i64 t.a, .int .i64 t.b, .int .i64 t.f] 83) = w1 at *
  have k3 := P3.out.cell; have l3 := P3.out.lt; have k4 := P4.out.cell; have l4 := P4.out.lt
  go_quiet ((go_at_call 54; exact Calls.quiet_of_same (Times_same (TM.out _))))
  have bd := drewN_below w1 nq
  have b2 := bel.trans (bd.mono bel.size)
  have P5 := Lib.hid (P3.out.step bd); have P6 := Lib.hid (P4.out.step bd)
  have HZ2 : Hid ((w1.drewN nq).heap.size = w.heap.size + 2) := Lib.hid HZ.out
  clear P3 P4 k3 l3 k4 l4 f1 f2 lf1 lf2 bd bel TM HZ
  generalize w1.drewN nq = w2 at *
  go_upto_region 6 with fail
  have E0 : ES w.heap.size w.heap.size (w.heap.size + 1) (w2.heap.size + 1) w2.heap.size (.int .i64 a.start) (.slice AA a.states.length ca) (.int .i64 b.start) (.slice AB b.states.length cb) t w ((w2.alloc (.cells #[.slice none 0 0] 86)).alloc (.cells #[.int .i64 0] 35)) [] :=
    ⟨(P5.out.alloc _).alloc _, (P6.out.alloc _).alloc _, Blk.new' (by simp), ⟨none, 0, (Blk.new _ _ _).alloc _, World.ownsRow_nil _ _ _ _⟩, (b2.alloc b2.size _).alloc (by simp; have := b2.size; omega) _, by have := b2.size; omega, b2.size, Nat.le_refl _⟩
  have HE0 := Lib.hid E0
  have n1 : w.heap.size ≠ w2.heap.size := by have := HZ2.out; omega
  have n2 : w.heap.size + 1 ≠ w2.heap.size := by have := HZ2.out; omega
  have n3 : w2.heap.size + 1 ≠ w2.heap.size := by omega
  clear E0 P5 P6 b2 HZ2
  generalize (w2.alloc (.cells #[.slice none 0 0] 86)).alloc (.cells #[.int .i64 0] 35) = w3 at *
  generalize w2.heap.size + 1 = wb at *
  generalize w2.heap.size = ob at *
  have k3 := HE0.out.pk.cell; have l3 := HE0.out.pk.lt; have k4 := HE0.out.tk.cell; have l4 := HE0.out.tk.lt
  unfold triV at MV
  unfold triA at k4
  go_wp2_with fail
  refine (MV.out _ _ _ _ w3 HE0.out n1 n2 n3).mono ?_; rintro e w4 ⟨rfl, hs, -⟩
  clear MV k3 l3 k4 l4 HE0
  generalize hl : hopsX a b t = l at *
  have HL := Lib.hid hl; clear hl
  obtain ⟨A, c, hq, hO⟩ := hs.q
  have kw := hs.wk.cell; have lw := hs.wk.lt; have kq := hq.cell; have lq := hq.lt
  have HO := Lib.hid hO; have HB := Lib.hid hs.bel
  clear hs hq hO
  go_wp2_with fail
  go_region
  all_goals
    go_wp2_with fail
    refine bodyPost_ret (v := .tuple #[.int .i64 ft, .slice A l.length c, .int .i64 0]) (by simp [results, Try.results36, go_sem, *]) rfl ⟨A, c, by rw [HL.out], ?_, ?_⟩
    · rw [HL.out]; exact own_below HO.out (Below.refl _ w4).drew (Nat.le_refl _)
    · exact HB.out.drew

set_option maxRecDepth 100000 in
theorem cboth_any (v1 v2 : Value) (m1 m2 : MachL) (w : World) (h1 : MachAt w v1 m1) (h2 : MachAt w v2 m2) (k1 : Valid m1) (k2 : Valid m2) :
    Calls Try.prog 35 #[v1, v2] w fun e w' => e = .returned (.int .i64 0) ∧ Below w.heap.size w w' := by
  have CH1 := Lib.hid (fun W' (hb : Below w.heap.size w W') => Check_ok v1 m1 W' (h1.below hb) k1)
  have CH2 := Lib.hid (fun W' (hb : Below w.heap.size w W') => Check_ok v2 m2 W' (h2.below hb) k2)
  obtain ⟨A1, c1, rfl, -⟩ := h1
  obtain ⟨A2, c2, rfl, -⟩ := h2
  go_enter Try.func35, Try.ntmps35
  go_wp2_with fail
  refine (CH1.out _ (by repeat' (first | exact Below.refl _ _ | assumption | refine Below.drew ?_ | refine Below.alloc ?_ (by first | omega | (simp; done) | (simp; omega)) _ | refine Below.setCell ?_ (by first | omega | (simp; done) | (simp; omega)) _))).mono ?_; rintro e w1 ⟨rfl, bel⟩; obtain ⟨c1, f1⟩ := bcell bel; have z1 := bel.size; simp at z1; (try have y0 : w.heap.size < w1.heap.size := by omega); (try have y1 : w.heap.size + 1 < w1.heap.size := by omega); (try have y2 : w.heap.size + 1 + 1 < w1.heap.size := by omega); (try have y3 : w.heap.size + 1 + 1 + 1 < w1.heap.size := by omega); (try have y4 : w.heap.size + 1 + 1 + 1 + 1 < w1.heap.size := by omega); (try have y5 : w.heap.size + 1 + 1 + 1 + 1 + 1 < w1.heap.size := by omega); (try have y6 : w.heap.size + 1 + 1 + 1 + 1 + 1 + 1 < w1.heap.size := by omega)
  go_wp2_with fail
  refine (CH2.out _ (by repeat' (first | exact Below.refl _ _ | assumption | refine Below.step ?_ bel | refine Below.drew ?_ | refine Below.alloc ?_ (by first | omega | (simp; done) | (simp; omega)) _ | refine Below.setCell ?_ (by first | omega | (simp; done) | (simp; omega)) _))).mono ?_; rintro e w2 ⟨rfl, b2⟩
  go_wp2_with fail
  go_ret
  exact ⟨rfl, Below.trans ((by repeat' (first | exact Below.refl _ _ | assumption | refine Below.step ?_ bel | refine Below.drew ?_ | refine Below.alloc ?_ (by first | omega | (simp; done) | (simp; omega)) _ | refine Below.setCell ?_ (by first | omega | (simp; done) | (simp; omega)) _)) : Below w.heap.size w w1) (b2.mono (by omega))⟩
end Go.Proofs.Ytikkmoleneioeaa
