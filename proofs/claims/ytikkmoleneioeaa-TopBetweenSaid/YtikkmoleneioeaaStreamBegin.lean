/- stream.Begin. -/
import Derived.Test.YtikkmoleneioeaaStreamMay
namespace Go.Proofs.Ytikkmoleneioeaa
open Go.RowKit

/-- a machine that is small enough to be fed -/
structure SmallS (m : MachL) (WW : Int) (AA : Nat) : Prop where
  arcs : ∀ q, (arcsQ m q).length ≤ AA
  wts : ∀ q, ∀ a ∈ arcsQ m q, a.wt ≤ WW
  w0 : 0 ≤ WW
  w1 : WW ≤ 1000000
  size : m.states.length + m.states.length * geo AA (m.states.length - 1) ≤ 100000
/-- marks behind the word x, and how far they are at most -/
def boundS (n k : Nat) : Nat := n + k * (n + 1)
structure StT (m : MachL) (WW : Int) (x : List Int) (L : TabK) : Prop where
  tab : Tab m x L
  kb : ∀ q k, L q = some k → KB (boundS m.states.length x.length) WW k
theorem bound_le {n k : Nat} (hn : n ≤ 60) (hk : k ≤ 12) : boundS n k ≤ 792 := by
  unfold boundS
  have := Nat.mul_le_mul hk (show n + 1 ≤ 61 by omega)
  omega
theorem bound_w {B : Nat} {WW : Int} (hB : B ≤ 792) (h0 : 0 ≤ WW) (h1 : WW ≤ 1000000) : (B : Int) * WW ≤ 1000000000 := by
  have h2 : (B : Int) * WW ≤ 792 * WW := Int.mul_le_mul_of_nonneg_right (by omega) h0
  omega
theorem StT.may {m : MachL} (hv : Valid m) {WW : Int} {AA : Nat} (hs : SmallS m WW AA) {x : List Int} {L : TabK} (h : StT m WW x L) (hx : x.length ≤ 12) : MayL m.states.length (marksL L m.states.length) := by
  have hb := bound_le hv.size hx
  refine ⟨marksL_up L _, fun y hy => ?_⟩
  unfold marksL at hy
  obtain ⟨q, hq, rfl⟩ := List.mem_map.1 hy
  have hs' : (L q).isSome = true := by unfold hasL at hq; exact (List.mem_filter.1 hq).2
  obtain ⟨k, hk⟩ := Option.isSome_iff_exists.1 hs'
  have hg : getK L q = k := by unfold getK; rw [hk]; rfl
  simp only [hg]
  obtain ⟨h1, h2, h3⟩ := h.tab.good hv hk
  have h4 := h.kb q k hk
  have h5 := bound_w hb hs.w0 hs.w1
  exact ⟨h1, h2, ⟨h3, Int.le_trans h4.2 h5⟩, by have := h4.1; omega⟩
theorem marksL_len (L : TabK) (n : Nat) : (marksL L n).length ≤ n := by
  unfold marksL; rw [List.length_map]; exact hasL_len L n
def L00 (m : MachL) : TabK := if 0 ≤ m.start then updK (fun _ => none) m.start.toNat ⟨0, []⟩ else fun _ => none
theorem l00_min (m : MachL) (q : Nat) : MinK (I0 m q) (L00 m q) := by
  unfold L00
  by_cases h : 0 ≤ m.start
  · rw [if_pos h]
    by_cases e : q = m.start.toNat
    · subst e
      rw [updK_at]
      exact ⟨fun k hk => ⟨h, rfl, (Option.some.inj hk).symm⟩, fun k hk => ⟨_, rfl, by rw [hk.2.2]; exact klt.irrefl _⟩⟩
    · rw [updK_ne _ _ e]
      exact ⟨fun k hk => by simp at hk, fun k hk => absurd hk.2.1 e⟩
  · rw [if_neg h]
    exact ⟨fun k hk => by simp at hk, fun k hk => absurd hk.1 h⟩
theorem begin_st {m : MachL} (hv : Valid m) {WW : Int} {AA : Nat} (hs : SmallS m WW AA) {L : TabK} (h : StInv m (L00 m) ⟨L, []⟩ 0 []) : StT m WW [] L := by
  refine ⟨tab_begin fun q => ext_min (l00_min m) (h.done rfl q), fun q k hk => ?_⟩
  have hI : ∀ q k, L00 m q = some k → q < m.states.length ∧ KB 0 WW k := fun q k hq => by
    obtain ⟨h0, rfl, rfl⟩ := (l00_min m q).1 k hq
    exact ⟨by have := hv.s1; omega, by simp, by simp⟩
  have := simp_bound hv hs.w0 hs.wts hI h.simp hk
  unfold boundS
  simpa using this
theorem below_map {B b : Nat} {w w1 w2 : World} (h : Below B w w1) (hg : w1.grownBy w2 (some b)) (hB : B ≤ w1.heap.size) (hb : B ≤ b) : Below B w w2 := h.grown hg hB (fun k hk => by cases hk; omega)
def BegO (m : MachL) (WW : Int) (w : World) (rv : Value) : Prop := ∃ L : TabK, RunAt w (fun _ => False) rv L m.states.length 0 ∧ StT m WW [] L
set_option maxRecDepth 100000 in
set_option maxHeartbeats 4000000 in
theorem Begin_any (v : Value) (m : MachL) (w : World) (WW : Int) (AA : Nat) (hm : MachAt w v m) (hv : Valid m) (hs : SmallS m WW AA) :
    Calls Try.prog 11 #[v] w fun e w' => ∃ rv, e = .returned (.tuple #[rv, .int .i64 0]) ∧ BegO m WW w' rv ∧ Below w.heap.size w w' := by
  have CH := Lib.hid (fun W (hb : Below w.heap.size w W) => Check_ok v m W (hm.below hb) hv)
  have hI : ∀ q k, L00 m q = some k → q < m.states.length ∧ GoodW k.out ∧ 0 ≤ k.c ∧ KB 0 WW k := fun q k hq => by
    obtain ⟨h0, rfl, rfl⟩ := (l00_min m q).1 k hq
    refine ⟨by have := hv.s1; omega, ?_, by simp, by simp, by simp⟩
    intro a ha; cases ha
  have hsz := hv.size
  have HB := Lib.hid (fun (L : TabK) (h : StInv m (L00 m) ⟨L, []⟩ 0 []) => begin_st hv hs h)
  have RN := Lib.hid (fun W (hb : Below w.heap.size w W) (h2 : w.heap.size + 2 ≤ W.heap.size) b (hT : TabX W b (L00 m) (fun g => g < w.heap.size + 2)) => run_any W (fun g => g < w.heap.size + 2) (fun g e => by omega) b (L00 m) v m 0 WW AA 0 hT (hm.below hb) hv hs.arcs hs.wts hs.w0 hI (by omega) (bound_w (by omega) hs.w0 hs.w1) hs.size)
  have HFIN : Hid (∀ (W : World) (rv : Value) (L : TabK) (A : Option Addr) (c k : Nat), RunAt W (fun g => g < w.heap.size + 2) rv L m.states.length 0 → StInv m (L00 m) ⟨L, []⟩ 0 [] → ∀ u u', BegO m WW ((W.setCell ⟨w.heap.size + 1, 0, none⟩ u).setCell ⟨w.heap.size + 1, 1, none⟩ u') rv) := Lib.hid fun W rv L A c k hr hi u u' =>
    ⟨L, ((hr.set (a := ⟨w.heap.size + 1, 0, none⟩) (by show w.heap.size + 1 < _; omega) u).set (a := ⟨w.heap.size + 1, 1, none⟩) (by show w.heap.size + 1 < _; omega) u').other fun _ e => e.elim, HB.out L hi⟩
  obtain ⟨A, c, rfl, hS⟩ := hm
  have hst := hv.s1; have hst0 := hv.s0
  by_cases h0 : 0 ≤ m.start
  · have HL0 : L00 m = updK (fun _ => none) m.start.toNat ⟨0, []⟩ := by unfold L00; rw [if_pos h0]
    obtain ⟨p, hp⟩ : ∃ p : Nat, m.start = (p : Int) := ⟨m.start.toNat, by omega⟩
    rw [hp, Int.toNat_natCast] at HL0
    rw [hp] at CH RN ⊢
    have BT := Lib.hid (fun W => better_any (W.alloc (.map #[] 0)) W.heap.size (fun _ => none) (fun g => g < w.heap.size + 2) p ⟨0, []⟩ none 0 (TabX.made W _) (Rd.nil _ _ _) (.inl rfl) (fun a ha => by cases ha) (by simp) (fun k0 h => by simp at h))
    have hbt : betB (fun _ => none) p ⟨0, []⟩ = true := rfl
    have hpt : putK (fun _ => none) p ⟨0, []⟩ = L00 m := by rw [HL0]; rfl
    rw [hbt, hpt] at BT
    have q0 : (0 : Int) ≤ (p : Int) := by omega
    clear hS hv hs hI hsz hp h0 HL0 hbt hpt hst hst0 HB
    go_enter Try.func11, Try.ntmps11
    go_wp2_with fail
    refine (CH.out _ (by repeat' (first | exact Below.refl _ _ | assumption | refine Below.drew ?_ | refine Below.alloc ?_ (by first | omega | (simp; done) | (simp; omega)) _ | refine Below.setCell ?_ (by first | omega | (simp; done) | (simp; omega)) _))).mono ?_; rintro e w1 ⟨rfl, bel⟩; obtain ⟨c1, f1⟩ := bcell bel; have z1 := bel.size; simp at z1; (try have y0 : w.heap.size < w1.heap.size := by omega); (try have y1 : w.heap.size + 1 < w1.heap.size := by omega); (try have y2 : w.heap.size + 1 + 1 < w1.heap.size := by omega); (try have y3 : w.heap.size + 1 + 1 + 1 < w1.heap.size := by omega); (try have y4 : w.heap.size + 1 + 1 + 1 + 1 < w1.heap.size := by omega); (try have y5 : w.heap.size + 1 + 1 + 1 + 1 + 1 < w1.heap.size := by omega); (try have y6 : w.heap.size + 1 + 1 + 1 + 1 + 1 + 1 < w1.heap.size := by omega)
    have BE := Lib.hid bel
    have hmm := run_makeMap (P := Try.prog) 68 w1
    go_wp2_with fail
    refine (BT.out w1).mono ?_; rintro e w3 ⟨rfl, ht, hg⟩
    have bel1 := bel.alloc bel.size (.map #[] 0)
    have bel3 := below_map bel1 hg bel1.size (by simp; omega)
    have w0 : Below w.heap.size w ((w.alloc (.cells #[.int .i64 (p : Int), .slice A m.states.length c] 28)).alloc (.cells #[.int .i64 0, .slice none 0 0] 34)) := (by repeat' (first | exact Below.refl _ _ | assumption | refine Below.drew ?_ | refine Below.alloc ?_ (by first | omega | (simp; done) | (simp; omega)) _ | refine Below.setCell ?_ (by first | omega | (simp; done) | (simp; omega)) _))
    have w03 := w0.trans (bel3.mono w0.size)
    obtain ⟨c3, f3⟩ := bcell bel3
    have z3 := bel3.size
    simp at z3
    have y3 : w.heap.size < w3.heap.size := by omega
    clear c1 f1 y0 y1 hmm hg bel bel1 BT BE
    go_wp2_with fail
    refine (RN.out w3 w03 (by omega) _ ht).mono ?_; rintro e w4 ⟨rv, rfl, ho, hg4⟩
    have bel4 := below_map bel3 hg4 bel3.size (by simp; omega)
    have w04 := w0.trans (bel4.mono w0.size)
    obtain ⟨L, hr, hi⟩ := ho
    have HF := Lib.hid (fun u u' => HFIN.out w4 rv L none 0 0 hr hi u u')
    obtain ⟨rA, rc, rfl, hma⟩ := hr
    obtain ⟨c4, f4⟩ := bcell bel4
    have z4 := bel4.size
    simp at z4
    have y4 : w.heap.size + 1 < w4.heap.size := by omega
    have HB4 := Lib.hid (fun u u' => ((w04.setCell (p := ⟨w.heap.size + 1, 0, none⟩) (by show w.heap.size ≤ w.heap.size + 1; omega) u).setCell (p := ⟨w.heap.size + 1, 1, none⟩) (by show w.heap.size ≤ w.heap.size + 1; omega) u'))
    clear hg4 hi hma RN bel3 bel4 w04 w0 CH
    generalize (marksL L m.states.length).length = nl at *
    go_wp2_with fail
    refine bodyPost_ret (v := .tuple #[.agg #[.int .i64 0, .slice rA nl rc], .int .i64 0]) (by simp [results, Try.results11, go_sem, *]) rfl ⟨_, rfl, HF.out _ _, HB4.out _ _⟩
  · have HL0 : L00 m = fun _ => none := by unfold L00; rw [if_neg h0]
    have hst1 : m.start = -1 := by omega
    rw [hst1] at CH RN ⊢
    rw [HL0] at RN HFIN
    clear hS hv hs hI hsz hst1 h0 HL0 hst hst0 HB
    go_enter Try.func11, Try.ntmps11
    go_wp2_with fail
    refine (CH.out _ (by repeat' (first | exact Below.refl _ _ | assumption | refine Below.drew ?_ | refine Below.alloc ?_ (by first | omega | (simp; done) | (simp; omega)) _ | refine Below.setCell ?_ (by first | omega | (simp; done) | (simp; omega)) _))).mono ?_; rintro e w1 ⟨rfl, bel⟩; obtain ⟨c1, f1⟩ := bcell bel; have z1 := bel.size; simp at z1; (try have y0 : w.heap.size < w1.heap.size := by omega); (try have y1 : w.heap.size + 1 < w1.heap.size := by omega); (try have y2 : w.heap.size + 1 + 1 < w1.heap.size := by omega); (try have y3 : w.heap.size + 1 + 1 + 1 < w1.heap.size := by omega); (try have y4 : w.heap.size + 1 + 1 + 1 + 1 < w1.heap.size := by omega); (try have y5 : w.heap.size + 1 + 1 + 1 + 1 + 1 < w1.heap.size := by omega); (try have y6 : w.heap.size + 1 + 1 + 1 + 1 + 1 + 1 < w1.heap.size := by omega)
    have hmm := run_makeMap (P := Try.prog) 68 w1
    have bel3 := bel.alloc bel.size (.map #[] 0)
    have w0 : Below w.heap.size w ((w.alloc (.cells #[.int .i64 (-1), .slice A m.states.length c] 28)).alloc (.cells #[.int .i64 0, .slice none 0 0] 34)) := (by repeat' (first | exact Below.refl _ _ | assumption | refine Below.drew ?_ | refine Below.alloc ?_ (by first | omega | (simp; done) | (simp; omega)) _ | refine Below.setCell ?_ (by first | omega | (simp; done) | (simp; omega)) _))
    have w03 := w0.trans (bel3.mono w0.size)
    have RR := Lib.hid (RN.out _ w03 (by simp; omega) w1.heap.size (TabX.made w1 _))
    have hz3 : w.heap.size + 2 ≤ w1.heap.size := by omega
    go_wp2_with fail
    refine RR.out.mono ?_; rintro e w4 ⟨rv, rfl, ho, hg4⟩
    clear c1 f1 y0 y1 hmm bel RR
    have bel4 := below_map bel3 hg4 bel3.size (by simp; omega)
    have w04 := w0.trans (bel4.mono w0.size)
    obtain ⟨L, hr, hi⟩ := ho
    have HF := Lib.hid (fun u u' => HFIN.out w4 rv L none 0 0 hr hi u u')
    obtain ⟨rA, rc, rfl, hma⟩ := hr
    obtain ⟨c4, f4⟩ := bcell bel4
    have z4 := bel4.size
    simp at z4
    have y4 : w.heap.size + 1 < w4.heap.size := by omega
    have HB4 := Lib.hid (fun u u' => ((w04.setCell (p := ⟨w.heap.size + 1, 0, none⟩) (by show w.heap.size ≤ w.heap.size + 1; omega) u).setCell (p := ⟨w.heap.size + 1, 1, none⟩) (by show w.heap.size ≤ w.heap.size + 1; omega) u'))
    clear hg4 hi hma RN bel3 bel4 w04 w0 CH
    generalize (marksL L m.states.length).length = nl at *
    go_wp2_with fail
    refine bodyPost_ret (v := .tuple #[.agg #[.int .i64 0, .slice rA nl rc], .int .i64 0]) (by simp [results, Try.results11, go_sem, *]) rfl ⟨_, rfl, HF.out _ _, HB4.out _ _⟩
end Go.Proofs.Ytikkmoleneioeaa
