/- arrange.by's closures: what arcs are ordered by. -/
import Derived.Test.YtlfjccgbngnjhaaSortPlain
import Derived.Shelf.SlSortCmp.QuietGrown
import Derived.BigQuiet
namespace Go.Proofs.Ytlfjccgbngnjhaa
open Go.RowKit Go.Sort

/-- new blocks and draws alone -/
structure BelD (w w' : World) : Prop where
  b : Below w.heap.size w w'
  d : w.drawn ≤ w'.drawn
theorem BelD.refl (w : World) : BelD w w := ⟨Below.refl _ _, Nat.le_refl _⟩
theorem BelD.alloc {w w' : World} (h : BelD w w') (o : Obj) : BelD w (w'.alloc o) := ⟨h.b.alloc h.b.size o, h.d⟩
theorem BelD.drew {w w' : World} (h : BelD w w') : BelD w w'.drew := ⟨h.b.drew, Nat.le_succ_of_le h.d⟩
theorem BelD.trans {a b c : World} (h : BelD a b) (k : BelD b c) : BelD a c := ⟨h.b.trans (k.b.mono h.b.size), Nat.le_trans h.d k.d⟩
theorem BelD.grow {w w' : World} (h : BelD w w') : ∃ q os', w' = grow (w.drewN q) os' := by
  refine ⟨w'.drawn - w.drawn, w'.heap.extract w.heap.size w'.heap.size, ?_⟩
  obtain ⟨⟨h1, h2, h3, h4, h5⟩, h6⟩ := h
  obtain ⟨hp, tp, dr, os, ou⟩ := w
  obtain ⟨hp', tp', dr', os', ou'⟩ := w'
  simp only at h1 h2 h3 h4 h5 h6
  subst h1 h2 h3
  unfold Sort.grow World.drewN
  simp only [World.mk.injEq, true_and, and_true]
  refine ⟨?_, by omega⟩
  apply Array.ext'
  apply List.ext_getElem?
  intro i
  have hx := h5 i
  simp only [Array.getElem?_toList, Array.toList_append] at *
  rcases Nat.lt_or_ge i hp.size with h | h
  · rw [← Array.toList_append]; simp only [Array.getElem?_toList]
    rw [Array.getElem?_append_left h, hx h]
  · rw [← Array.toList_append]; simp only [Array.getElem?_toList]
    rw [Array.getElem?_append_right h, Array.getElem?_extract]
    split
    · congr 1; omega
    · rw [Array.getElem?_eq_none]; omega

theorem BelD.drewN {w w' : World} (h : BelD w w') (n : Nat) : BelD w (w'.drewN n) := ⟨⟨h.b.os, h.b.tape, h.b.output, h.b.size, h.b.block⟩, Nat.le_trans h.d (Nat.le_add_right _ _)⟩
theorem Rd.drewN' {w : World} {A : Option Addr} {n size : Nat} {xs : List Value} (h : Rd w A n size xs) (k : Nat) : Rd (w.drewN k) A n size xs := ⟨h.len, h.rdy, h.cell⟩
theorem rd4 {w : World} {g : Nat} {x y z u : Int} (h0 : w.cell? ⟨g, 0, none⟩ = some (.int .i64 x)) (h1 : w.cell? ⟨g, 1, none⟩ = some (.int .i64 y)) (h2 : w.cell? ⟨g, 2, none⟩ = some (.int .i64 z)) (h3 : w.cell? ⟨g, 3, none⟩ = some (.int .i64 u)) : Rd w (some ⟨g, 0, none⟩) 4 1 (icells [x, y, z, u]) := by
  refine ⟨rfl, rdy_some _ _ _, fun j hj => ?_⟩
  simp only [blk_some, ofs_some, Nat.zero_add]
  match j, hj with
  | 0, _ => exact h0
  | 1, _ => exact h1
  | 2, _ => exact h2
  | 3, _ => exact h3

theorem lexL_drop {xs ys : List Int} {k : Nat} (h : k < xs.length) (h' : k < ys.length) : lexL (xs.drop k) (ys.drop k) = if cmp3 xs[k] ys[k] = 0 then lexL (xs.drop (k + 1)) (ys.drop (k + 1)) else cmp3 xs[k] ys[k] := by
  rw [List.drop_eq_getElem_cons h, List.drop_eq_getElem_cons h', lexL_cons]

set_option maxRecDepth 100000 in
set_option maxHeartbeats 4000000 in
theorem SlCompare_any (A B : Option Addr) (n c c' : Nat) (xs ys : List Int) (w : World) (h : Rd w A n 1 (icells xs)) (h' : Rd w B n 1 (icells ys)) (hl : n ≤ 1000000) :
    Calls Try.prog 44 #[.slice A n c, .slice B n c'] w fun e w' => e = .returned (.int .i64 (lexL xs ys)) ∧ w = w' := by
  have HC := Lib.hid (rdi_cell h)
  have HL := Lib.hid (rdi_len h)
  have HC' := Lib.hid (rdi_cell h')
  have HL' := Lib.hid (rdi_len h')
  have HZ : Hid (lexL (xs.drop n) (ys.drop n) = 0) := Lib.hid (by rw [rdi_len h, List.drop_length]; rfl)
  have rd := h.rdy
  have rd' := h'.rdy
  clear h h'
  go_enter Try.func44, Try.ntmps44
  go_wp2
  go_loop [11] (fun i => ∃ k : Nat, k ≤ n ∧ i = .int .i64 k ∧ Hid (lexL (xs.drop k) (ys.drop k) = lexL xs ys)) (fun i => n - (intOf i).toNat)
  case atStart => exact ⟨0, by omega, rfl, Lib.hid rfl⟩
  case round =>
    obtain ⟨k, hk, rfl, HF⟩ := hrel
    by_cases hln : k < n
    · have hlt : k < xs.length := by have := HL.out; omega
      have hlt' : k < ys.length := by have := HL'.out; omega
      have hcell := HC.out k hlt
      have hcell' := HC'.out k hlt'
      have HD := Lib.hid (lexL_drop hlt hlt')
      have q1 : (0 : Int) ≤ ↑k := by omega
      have q2 : (↑k : Int) < ↑n := by omega
      have hcon := Compare_any (xs[k]) (ys[k]) w
      generalize cmp3 xs[k] ys[k] = r at *
      generalize xs[k] = x at *
      generalize ys[k] = y at *
      have HCON := Lib.hid hcon
      clear hcon
      by_cases hz : r = 0
      · have hb : (r != 0) = false := by simp [hz]
        go_wp2_with (go_at_call 49; refine HCON.out.mono ?_; rintro e w' ⟨rfl, rfl⟩)
        go_round
        case rel => exact ⟨k + 1, by omega, by go_num, Lib.hid (by rw [← HF.out, HD.out, if_pos hz])⟩
        case measure => simp [intOf]; omega
      · have hb : (r != 0) = true := by simp [hz]
        have HE := Lib.hid (HF.out.symm.trans (HD.out.trans (if_neg hz)))
        go_wp2_with (go_at_call 49; refine HCON.out.mono ?_; rintro e w' ⟨rfl, rfl⟩)
        go_ret
        exact ⟨by rw [HE.out]; rfl, rfl⟩
    · have e : k = n := by omega
      subst e
      have HE := Lib.hid (HF.out.symm.trans HZ.out)
      go_wp2
      go_ret
      exact ⟨by rw [HE.out]; rfl, rfl⟩

/-- a key's function: it boxes its argument and makes its result -/
def KeyFn (g : Nat) (K0 K1 K2 K3 : ArcL → Int) : Prop := ∀ (a : ArcL) (W : World), Calls Try.prog g #[arcVal a] W fun e w' => e = .returned (.agg #[.int .i64 (K0 a), .int .i64 (K1 a), .int .i64 (K2 a), .int .i64 (K3 a)]) ∧ (W.alloc (.cells #[.int .i64 a.inn, .int .i64 a.out, .int .i64 a.wt, .int .i64 a.to] 42)).alloc (.cells #[.int .i64 (K0 a), .int .i64 (K1 a), .int .i64 (K2 a), .int .i64 (K3 a)] 81) = w'
theorem readKey_fn : KeyFn 24 (·.inn) (·.out) (·.to) (·.wt) := by
  intro a W
  go_enter Try.func24, Try.ntmps24
  go_wp2
  exact bodyPost_ret (v := .agg #[.int .i64 a.inn, .int .i64 a.out, .int .i64 a.to, .int .i64 a.wt]) (by simp [results, Try.results24, go_sem]) rfl ⟨rfl, rfl⟩
theorem writeKey_fn : KeyFn 35 (·.out) (·.inn) (·.to) (·.wt) := by
  intro a W
  go_enter Try.func35, Try.ntmps35
  go_wp2
  exact bodyPost_ret (v := .agg #[.int .i64 a.out, .int .i64 a.inn, .int .i64 a.to, .int .i64 a.wt]) (by simp [results, Try.results35, go_sem]) rfl ⟨rfl, rfl⟩

set_option maxRecDepth 100000 in
set_option maxHeartbeats 4000000 in
theorem by_any (g : Nat) (K0 K1 K2 K3 : ArcL → Int) (hE : ∀ (x : Array Value) (W : World), (callFunc g x).run Try.prog W = .ok (.enter g x) W) (hK : KeyFn g K0 K1 K2 K3) (a b : ArcL) (bx : Nat) (w : World) (hbx : w.cell? ⟨bx, 0, none⟩ = some (.func (.func g) #[] #[])) :
    Calls Try.prog 43 #[arcVal a, arcVal b, .pointer (some ⟨bx, 0, none⟩)] w fun e w' => e = .returned (.int .i64 (lexL [K0 a, K1 a, K2 a, K3 a] [K0 b, K1 b, K2 b, K3 b])) ∧ BelD w w' := by
  have hB : bx < w.heap.size := World.block_lt_of_cell? _ _ hbx
  have HK := Lib.hid hK
  clear hK
  go_enter Try.func43, Try.ntmps43
  go_wp2_with fail
  have e0 : ((w.alloc (.cells #[.int .i64 a.inn, .int .i64 a.out, .int .i64 a.wt, .int .i64 a.to] 42)).alloc (.cells #[.int .i64 b.inn, .int .i64 b.out, .int .i64 b.wt, .int .i64 b.to] 42)).cell? ⟨bx, 0, none⟩ = some (.func (.func g) #[] #[]) := (((by repeat' (first | exact Below.refl _ _ | assumption | refine Below.drew ?_ | refine Below.alloc ?_ (by first | omega | (simp; done) | (simp; omega)) _ | refine Below.setCell ?_ (by first | omega | (simp; done) | (simp; omega)) _)) : Below w.heap.size w ((w.alloc (.cells #[.int .i64 a.inn, .int .i64 a.out, .int .i64 a.wt, .int .i64 a.to] 42)).alloc (.cells #[.int .i64 b.inn, .int .i64 b.out, .int .i64 b.wt, .int .i64 b.to] 42))).cell hB).trans hbx
  have ea0 : ((w.alloc (.cells #[.int .i64 a.inn, .int .i64 a.out, .int .i64 a.wt, .int .i64 a.to] 42)).alloc (.cells #[.int .i64 b.inn, .int .i64 b.out, .int .i64 b.wt, .int .i64 b.to] 42)).cell? ⟨w.heap.size, 0, none⟩ = some (.int .i64 a.inn) := by simp [go_sem]
  have ea1 : ((w.alloc (.cells #[.int .i64 a.inn, .int .i64 a.out, .int .i64 a.wt, .int .i64 a.to] 42)).alloc (.cells #[.int .i64 b.inn, .int .i64 b.out, .int .i64 b.wt, .int .i64 b.to] 42)).cell? ⟨w.heap.size, 1, none⟩ = some (.int .i64 a.out) := by simp [go_sem]
  have ea2 : ((w.alloc (.cells #[.int .i64 a.inn, .int .i64 a.out, .int .i64 a.wt, .int .i64 a.to] 42)).alloc (.cells #[.int .i64 b.inn, .int .i64 b.out, .int .i64 b.wt, .int .i64 b.to] 42)).cell? ⟨w.heap.size, 2, none⟩ = some (.int .i64 a.wt) := by simp [go_sem]
  have ea3 : ((w.alloc (.cells #[.int .i64 a.inn, .int .i64 a.out, .int .i64 a.wt, .int .i64 a.to] 42)).alloc (.cells #[.int .i64 b.inn, .int .i64 b.out, .int .i64 b.wt, .int .i64 b.to] 42)).cell? ⟨w.heap.size, 3, none⟩ = some (.int .i64 a.to) := by simp [go_sem]
  have eb0 : ((w.alloc (.cells #[.int .i64 a.inn, .int .i64 a.out, .int .i64 a.wt, .int .i64 a.to] 42)).alloc (.cells #[.int .i64 b.inn, .int .i64 b.out, .int .i64 b.wt, .int .i64 b.to] 42)).cell? ⟨w.heap.size + 1, 0, none⟩ = some (.int .i64 b.inn) := by simp [go_sem]
  have eb1 : ((w.alloc (.cells #[.int .i64 a.inn, .int .i64 a.out, .int .i64 a.wt, .int .i64 a.to] 42)).alloc (.cells #[.int .i64 b.inn, .int .i64 b.out, .int .i64 b.wt, .int .i64 b.to] 42)).cell? ⟨w.heap.size + 1, 1, none⟩ = some (.int .i64 b.out) := by simp [go_sem]
  have eb2 : ((w.alloc (.cells #[.int .i64 a.inn, .int .i64 a.out, .int .i64 a.wt, .int .i64 a.to] 42)).alloc (.cells #[.int .i64 b.inn, .int .i64 b.out, .int .i64 b.wt, .int .i64 b.to] 42)).cell? ⟨w.heap.size + 1, 2, none⟩ = some (.int .i64 b.wt) := by simp [go_sem]
  have eb3 : ((w.alloc (.cells #[.int .i64 a.inn, .int .i64 a.out, .int .i64 a.wt, .int .i64 a.to] 42)).alloc (.cells #[.int .i64 b.inn, .int .i64 b.out, .int .i64 b.wt, .int .i64 b.to] 42)).cell? ⟨w.heap.size + 1, 3, none⟩ = some (.int .i64 b.to) := by simp [go_sem]
  have B1 : BelD w ((w.alloc (.cells #[.int .i64 a.inn, .int .i64 a.out, .int .i64 a.wt, .int .i64 a.to] 42)).alloc (.cells #[.int .i64 b.inn, .int .i64 b.out, .int .i64 b.wt, .int .i64 b.to] 42)) := ((BelD.refl w).alloc _).alloc _
  generalize (w.alloc (.cells #[.int .i64 a.inn, .int .i64 a.out, .int .i64 a.wt, .int .i64 a.to] 42)).alloc (.cells #[.int .i64 b.inn, .int .i64 b.out, .int .i64 b.wt, .int .i64 b.to] 42) = w1 at *
  have HS : Hid (∀ W, Below w1.heap.size w1 W → W.cell? ⟨bx, 0, none⟩ = some (.func (.func g) #[] #[]) ∧ W.cell? ⟨w.heap.size, 0, none⟩ = some (.int .i64 a.inn) ∧ W.cell? ⟨w.heap.size, 1, none⟩ = some (.int .i64 a.out) ∧ W.cell? ⟨w.heap.size, 2, none⟩ = some (.int .i64 a.wt) ∧ W.cell? ⟨w.heap.size, 3, none⟩ = some (.int .i64 a.to) ∧ W.cell? ⟨w.heap.size + 1, 0, none⟩ = some (.int .i64 b.inn) ∧ W.cell? ⟨w.heap.size + 1, 1, none⟩ = some (.int .i64 b.out) ∧ W.cell? ⟨w.heap.size + 1, 2, none⟩ = some (.int .i64 b.wt) ∧ W.cell? ⟨w.heap.size + 1, 3, none⟩ = some (.int .i64 b.to)) := Lib.hid fun W hw => ⟨cellB hw e0, cellB hw ea0, cellB hw ea1, cellB hw ea2, cellB hw ea3, cellB hw eb0, cellB hw eb1, cellB hw eb2, cellB hw eb3⟩
  generalize w.heap.size = G at *
  go_cut [6, 7] (fun p q wx => ∃ g1 g2, p = .pointer (some ⟨g1, 0, none⟩) ∧ q = .pointer (some ⟨g2, 0, none⟩) ∧ Rd wx (some ⟨g1, 0, none⟩) 4 1 (icells [K0 a, K1 a, K2 a, K3 a]) ∧ Rd wx (some ⟨g2, 0, none⟩) 4 1 (icells [K0 b, K1 b, K2 b, K3 b]) ∧ BelD w wx)
  case first =>
    go_region_held3 (fun W => W.cell? ⟨bx, 0, none⟩ = some (.func (.func g) #[] #[]) ∧ W.cell? ⟨G, 0, none⟩ = some (.int .i64 a.inn) ∧ W.cell? ⟨G, 1, none⟩ = some (.int .i64 a.out) ∧ W.cell? ⟨G, 2, none⟩ = some (.int .i64 a.wt) ∧ W.cell? ⟨G, 3, none⟩ = some (.int .i64 a.to) ∧ W.cell? ⟨G + 1, 0, none⟩ = some (.int .i64 b.inn) ∧ W.cell? ⟨G + 1, 1, none⟩ = some (.int .i64 b.out) ∧ W.cell? ⟨G + 1, 2, none⟩ = some (.int .i64 b.wt) ∧ W.cell? ⟨G + 1, 3, none⟩ = some (.int .i64 b.to)) (exact HS.out _ (by repeat' (first | exact Below.refl _ _ | refine Below.drew ?_ | refine Below.alloc ?_ (by first | omega | (simp; done) | (simp; omega)) _ | refine Below.setCell ?_ (by first | omega | (simp; done) | (simp; omega)) _)))
      (first | (go_at_fn g; refine (HK.out _ _).mono ?_; rintro e w' ⟨rfl, rfl⟩))
    all_goals
      go_wp2_with fail
      go_meet
      case rel => exact ⟨_, _, rfl, rfl, rd4 (by simp [go_sem]) (by simp [go_sem]) (by simp [go_sem]) (by simp [go_sem]), rd4 (by simp [go_sem]) (by simp [go_sem]) (by simp [go_sem]) (by simp [go_sem]), B1.trans (by repeat' (first | exact BelD.refl _ | refine BelD.drew ?_ | refine BelD.alloc ?_ _))⟩
  case rest =>
    obtain ⟨g1, g2, rfl, rfl, r1, r2, bd⟩ := hcut
    have R1 := Lib.hid r1; have R2 := Lib.hid r2; have BD := Lib.hid bd
    clear r1 r2 bd hbx hB B1 HS
    generalize hv : lexL [K0 a, K1 a, K2 a, K3 a] [K0 b, K1 b, K2 b, K3 b] = r
    have HR := Lib.hid hv
    have HV := Lib.hid (fun W h1 h2 => SlCompare_any (some ⟨g1, 0, none⟩) (some ⟨g2, 0, none⟩) 4 4 4 _ _ W h1 h2 (by omega) |>.mono fun _ _ h => And.intro (hv ▸ h.1) h.2)
    clear hv
    go_wp2_with fail
    go_quiet ((go_at_call 44; exact Calls.quiet_of_same ((HV.out _ (R1.out.drewN' _) (R2.out.drewN' _)).mono fun _ _ h => ⟨h.1, h.2.symm⟩)))
    go_wp2_with fail
    go_ret
    exact ⟨by rw [HR.out]; rfl, BD.out.drewN _⟩
end Go.Proofs.Ytlfjccgbngnjhaa
