/- The walk of TwinRing. -/
import Derived.Test.YtgepgokaodcpcaaArgInts
import Derived.Test.YtgepgokaodcpcaaTwinLaws
import Derived.Deep.RegionHeld3
import Derived.Deep.DeepCutAuto
import Derived.Deep.CutBlock
namespace Go.Proofs.Ytgepgokaodcpcaa.twinRing
open Go.ChangeShapes Go.WideShapes Go.ChangeAt Go.RowKit

theorem beq_of {a b : Int} (h : a = b) : (a == b) = true := by simp [h]

/-- the array's six cells, in the loop -/
def Six (B : Nat) (wr : World) (f : Nat → Int) : Prop := (∀ j, j < 6 → wr.cell? ⟨B, j, none⟩ = some (.int .i64 (f j))) ∧ (∀ j, wr.frozen? ⟨B, j, none⟩ = false) ∧ (∀ j, -9223372036854775808 ≤ f j ∧ f j ≤ 9223372036854775807)

theorem six_start (w : World) (t : TypeId) : Six w.heap.size (w.alloc (.cells #[Value.int .i64 0, Value.int .i64 0, Value.int .i64 0, Value.int .i64 0, Value.int .i64 0, Value.int .i64 0] t)) (fun _ => 0) := by
  refine ⟨?_, fun j => by simp, fun j => by simp⟩
  intro j hj
  rw [World.cell?_alloc_new]
  match j, hj with
  | 0, _ => rfl
  | 1, _ => rfl
  | 2, _ => rfl
  | 3, _ => rfl
  | 4, _ => rfl
  | 5, _ => rfl

theorem six_set {B : Nat} {wr : World} {f : Nat → Int} (h : Six B wr f) (k : Nat) (hk : k < 6) (x : Int) (hx : -9223372036854775808 ≤ x ∧ x ≤ 9223372036854775807) :
    Six B (wr.setCell ⟨B, k, none⟩ (.int .i64 x)) (fun j => if j = k then x else f j) := by
  obtain ⟨h1, h2, h3⟩ := h
  refine ⟨fun j hj => ?_, fun j => by rw [World.frozen?_setCell]; exact h2 j, fun j => ?_⟩
  · by_cases e : j = k
    · subst e; rw [World.cell?_setCell_same _ _ _ (h1 j hj)]; simp
    · rw [World.cell?_setCell_other _ _ _ _ (by intro h; injection h; omega), h1 j hj]; simp [e]
  · simp only; split
    · exact hx
    · exact h3 j

/-- a box that holds a twin -/
def Box (w : World) (g : Nat) (a b : Int) : Prop := w.cell? ⟨g, 0, none⟩ = some (.int .i64 a) ∧ w.cell? ⟨g, 1, none⟩ = some (.int .i64 b)
theorem Box.below {w w' : World} {g : Nat} {a b : Int} (h : Box w g a b) {B : Nat} (hb : Below B w w') (hg : g < B) : Box w' g a b :=
  ⟨by rw [hb.cell (p := ⟨g, 0, none⟩) hg]; exact h.1, by rw [hb.cell (p := ⟨g, 1, none⟩) hg]; exact h.2⟩
theorem Box.lt {w : World} {g : Nat} {a b : Int} (h : Box w g a b) : g < w.heap.size := World.block_lt_of_cell? _ _ h.1
theorem Box.mk_ (w : World) (t : TypeId) (a b : Int) : Box (w.alloc (.cells #[.int .i64 a, .int .i64 b] t)) w.heap.size a b := ⟨by simp [go_sem], by simp [go_sem]⟩

set_option maxRecDepth 100000 in
set_option maxHeartbeats 4000000 in
theorem walk (A : Option Addr) (n cap : Nat) (xs : List Int) (w : World) (hx : IntsArg w A n xs) :
    Calls Try.prog 7 #[.slice A n cap] w fun e w' => e = .returned (.bool true) ∧ Below w.heap.size w w' := by
  obtain ⟨_, hn, hA, hb⟩ := hx
  have HB := Lib.hid hb; clear hb
  have HA := Lib.hid hA; clear hA
  unfold maxLen at hn
  go_enter Try.func7, Try.ntmps7
  go_upto_block 0 with fail
  go_cut [0] (fun _ wr => (∃ f, Six w.heap.size wr f) ∧ Below w.heap.size w wr ∧ w.heap.size < wr.heap.size)
  case first =>
    go_wp2_with fail
    rcases HA.out with h0 | ⟨b, off, hAe, hc⟩
    · have H0 := Lib.hid h0
      clear h0
      go_loopw [4] (fun i wr => ∃ (k : Nat) (f : Nat → Int), k ≤ 6 ∧ i = .int .i64 k ∧ Six w.heap.size wr f ∧ Below w.heap.size w wr ∧ w.heap.size < wr.heap.size) (fun i _ => 6 - (intOf i).toNat)
      case atStart => exact ⟨0, fun _ => 0, by omega, rfl, six_start w _, (by repeat' (first | exact Below.refl _ _ | assumption | refine Below.drew ?_ | refine Below.alloc ?_ (by simp; try omega) _ | refine Below.setCell ?_ (by simp; try omega) _)), by simp⟩
      case round =>
        obtain ⟨k, f, hk, rfl, hf, bel, hs⟩ := hrel
        have HF := Lib.hid hf; clear hf
        have gn : ¬ (k : Int) < n := by have := H0.out; omega
        go_wp2_with fail
        all_goals
          go_meet
          case rel => exact ⟨⟨f, HF.out⟩, bel, hs⟩
    · have HC := Lib.hid hc; clear hc
      rw [hAe]
      clear hAe
      go_loopw [4] (fun i wr => ∃ (k : Nat) (f : Nat → Int), k ≤ 6 ∧ i = .int .i64 k ∧ Six w.heap.size wr f ∧ Below w.heap.size w wr ∧ w.heap.size < wr.heap.size) (fun i _ => 6 - (intOf i).toNat)
      case atStart => exact ⟨0, fun _ => 0, by omega, rfl, six_start w _, (by repeat' (first | exact Below.refl _ _ | assumption | refine Below.drew ?_ | refine Below.alloc ?_ (by simp; try omega) _ | refine Below.setCell ?_ (by simp; try omega) _)), by simp⟩
      case round =>
        obtain ⟨k, f, hk, rfl, hf, bel, hs⟩ := hrel
        by_cases h6 : k < 6 ∧ k < n
        · obtain ⟨h6, hkn⟩ := h6
          have hcell : wr.cell? ⟨b, off + k, none⟩ = some (.int .i64 (xs.getD k 0)) := by
            have h1 := HC.out k hkn
            rw [bel.cell (World.block_lt_of_cell? _ _ h1), h1]
          have hx := HB.out k
          generalize xs.getD k 0 = x at hcell hx
          have h1 := hf.1 k h6
          have h2 := hf.2.1 k
          have HF := Lib.hid hf; clear hf
          have h6' : (k : Int) < 6 := by omega
          go_wp2_with fail
          go_roundw
          case rel => exact ⟨k + 1, _, by omega, by go_num, six_set HF.out k h6 x hx, bel.setCell (Nat.le_refl _) _, by simpa using hs⟩
          case measure => simp [intOf]; omega
        · have HF := Lib.hid hf; clear hf
          have gn : ¬ ((k : Int) < 6 ∧ (k : Int) < n) := by omega
          go_wp2_with fail
          all_goals
            go_meet
            case rel => exact ⟨⟨f, HF.out⟩, bel, hs⟩
  case rest =>
    obtain ⟨⟨f, h1, h2, h3⟩, bel, hs⟩ := hcut
    have k0 := h1 0 (by omega); have k1 := h1 1 (by omega); have k2 := h1 2 (by omega)
    have k3 := h1 3 (by omega); have k4 := h1 4 (by omega); have k5 := h1 5 (by omega)
    have b0 := h3 0; have b1 := h3 1; have b2 := h3 2; have b3 := h3 3; have b4 := h3 4; have b5 := h3 5
    clear h1 h2 h3
    generalize f 0 = x0 at *; generalize f 1 = x1 at *; generalize f 2 = x2 at *; generalize f 3 = x3 at *; generalize f 4 = x4 at *; generalize f 5 = x5 at *
    go_wp2_with fail
    refine (pair_any _ _ _ b0.1 b0.2 b1.1 b1.2).mono ?_
    rintro e w1 ⟨rfl, r1⟩
    obtain ⟨c1, -⟩ := bcell r1
    have y1 : w.heap.size < w1.heap.size := by have := r1.size; omega
    go_wp2_with fail
    refine (pair_any _ _ _ b2.1 b2.2 b3.1 b3.2).mono ?_
    rintro e w2 ⟨rfl, r2⟩
    obtain ⟨c2, -⟩ := bcell r2
    have y2 : w.heap.size < w2.heap.size := by have := r2.size; simp at this; omega
    have y12 : w1.heap.size < w2.heap.size := by have := r2.size; simp at this; omega
    go_wp2_with fail
    refine (pair_any _ _ _ b4.1 b4.2 b5.1 b5.2).mono ?_
    rintro e w3 ⟨rfl, r3⟩
    obtain ⟨c3, -⟩ := bcell r3
    have y13 : w1.heap.size < w3.heap.size := by have := r3.size; simp at this; omega
    have y23 : w2.heap.size < w3.heap.size := by have := r3.size; simp at this; omega
    go_upto_region 9 with fail
    have ha := tw3_pair x0 x1; have hb := tw3_pair x2 x3; have hc := tw3_pair x4 x5
    have X1 : Box (w3.alloc (.cells #[.int .i64 (prA x4), .int .i64 (prB x4 x5)] 23)) w1.heap.size (prA x0) (prB x0 x1) := by constructor <;> simp [go_sem, *]
    have X2 : Box (w3.alloc (.cells #[.int .i64 (prA x4), .int .i64 (prB x4 x5)] 23)) w2.heap.size (prA x2) (prB x2 x3) := by constructor <;> simp [go_sem, *]
    have X3 : Box (w3.alloc (.cells #[.int .i64 (prA x4), .int .i64 (prB x4 x5)] 23)) w3.heap.size (prA x4) (prB x4 x5) := by constructor <;> simp [go_sem, *]
    have belW : Below w.heap.size w (w3.alloc (.cells #[.int .i64 (prA x4), .int .i64 (prB x4 x5)] 23)) := (((bel.trans (r1.mono bel.size)).trans ((Below.alloc (Below.refl _ _) (by omega) _).trans (r2.mono (by simp; omega)))).trans ((Below.alloc (Below.refl _ _) (by omega) _).trans (r3.mono (by simp; omega)))).alloc (by omega) _
    generalize w3.alloc (.cells #[.int .i64 (prA x4), .int .i64 (prB x4 x5)] 23) = W at *
    generalize prA x0 = a at *; generalize prB x0 x1 = b at *; generalize prA x2 = c at *; generalize prB x2 x3 = d at *; generalize prA x4 = e at *; generalize prB x4 x5 = f at *
    generalize w1.heap.size = g5 at *; generalize w2.heap.size = g6 at *; generalize w3.heap.size = g7 at *
    have l1 := X1.lt; have l2 := X2.lt; have l3 := X3.lt
    clear c1 c2 c3 r1 r2 r3 k0 k1 k2 k3 k4 k5
    go_upto_region 9 with fail
    go_cut [8] (fun s8 wx => s8 = .bool true ∧ Below W.heap.size W wx)
    case first =>
      have o1 := ha.ok; have o2 := hb.ok; have o3 := hc.ok
      have p12 := tw3_p ha hb; have p23 := tw3_p hb hc
      have o12 := p12.ok; have o23 := p23.ok
      have f12 := fits3 ha hb; have f23 := fits3 hb hc
      have t12 := tw6_t ha hb; have t23 := tw6_t hb hc
      have f123 := fits63 t12 hc; have f231 := fits36 ha t23
      have e1 := beq_of (p_assoc (a := a) (b := b) (c := c) (d := d) (e := e) (f := f)).1
      have e2 := beq_of (p_assoc (a := a) (b := b) (c := c) (d := d) (e := e) (f := f)).2
      have e3 := beq_of (t_assoc ha hb hc).1
      have e4 := beq_of (t_assoc ha hb hc).2
      go_region_held3 (fun w' => w'.cell? ⟨g5, 0, none⟩ = some (.int .i64 a) ∧ w'.cell? ⟨g5, 1, none⟩ = some (.int .i64 b) ∧ w'.cell? ⟨g6, 0, none⟩ = some (.int .i64 c) ∧ w'.cell? ⟨g6, 1, none⟩ = some (.int .i64 d) ∧ w'.cell? ⟨g7, 0, none⟩ = some (.int .i64 e) ∧ w'.cell? ⟨g7, 1, none⟩ = some (.int .i64 f) ∧ Below W.heap.size W w') (first | (have q : Below W.heap.size W W.drew := (Below.refl _ _).drew; exact ⟨(X1.below q l1).1, (X1.below q l1).2, (X2.below q l2).1, (X2.below q l2).2, (X3.below q l3).1, (X3.below q l3).2, q⟩) | (go_split_ands; have q := Below.step (a := W) (by assumption) bn; exact ⟨(X1.below q l1).1, (X1.below q l1).2, (X2.below q l2).1, (X2.below q l2).2, (X3.below q l3).1, (X3.below q l3).2, q⟩)) (first | (go_at_call 23; refine (plusTwin_any _ _ _ _ _ (by assumption) (by assumption)).mono ?_; rintro e wn ⟨rfl, bn⟩) | (go_at_call 24; refine (timesTwin_any _ _ _ _ _ (by assumption)).mono ?_; rintro e wn ⟨rfl, bn⟩))
      all_goals
        go_wp2_with fail
        go_meet
        case rel => exact ⟨rfl, by go_split_ands; assumption⟩
    case rest =>
      obtain ⟨rfl, hB⟩ := hcut
      obtain ⟨Wa, rfl⟩ : ∃ X : World, X = wc := ⟨_, rfl⟩
      replace X1 := X1.below hB l1; replace X2 := X2.below hB l2; replace X3 := X3.below hB l3
      replace belW := belW.trans (hB.mono belW.size)
      clear hB l1 l2 l3
      have l1 := X1.lt; have l2 := X2.lt; have l3 := X3.lt
      go_upto_region 10 with fail
      go_cut [9] (fun s9 wx => s9 = .bool true ∧ Below Wa.heap.size Wa wx)
      case first =>
        have o1 := ha.ok; have o2 := hb.ok
        have f12 := fits3 ha hb; have f21 := fits3 hb ha
        have e1 := beq_of (p_comm (a := a) (b := b) (c := c) (d := d)).1
        have e2 := beq_of (p_comm (a := a) (b := b) (c := c) (d := d)).2
        have e3 := beq_of (t_comm (a := a) (b := b) (c := c) (d := d)).1
        have e4 := beq_of (t_comm (a := a) (b := b) (c := c) (d := d)).2
        go_region_held3 (fun w' => w'.cell? ⟨g5, 0, none⟩ = some (.int .i64 a) ∧ w'.cell? ⟨g5, 1, none⟩ = some (.int .i64 b) ∧ w'.cell? ⟨g6, 0, none⟩ = some (.int .i64 c) ∧ w'.cell? ⟨g6, 1, none⟩ = some (.int .i64 d) ∧ w'.cell? ⟨g7, 0, none⟩ = some (.int .i64 e) ∧ w'.cell? ⟨g7, 1, none⟩ = some (.int .i64 f) ∧ Below Wa.heap.size Wa w') (first | (have q : Below Wa.heap.size Wa Wa.drew := (Below.refl _ _).drew; exact ⟨(X1.below q l1).1, (X1.below q l1).2, (X2.below q l2).1, (X2.below q l2).2, (X3.below q l3).1, (X3.below q l3).2, q⟩) | (go_split_ands; have q := Below.step (a := Wa) (by assumption) bn; exact ⟨(X1.below q l1).1, (X1.below q l1).2, (X2.below q l2).1, (X2.below q l2).2, (X3.below q l3).1, (X3.below q l3).2, q⟩)) (first | (go_at_call 23; refine (plusTwin_any _ _ _ _ _ (by assumption) (by assumption)).mono ?_; rintro e wn ⟨rfl, bn⟩) | (go_at_call 24; refine (timesTwin_any _ _ _ _ _ (by assumption)).mono ?_; rintro e wn ⟨rfl, bn⟩))
        all_goals
          go_wp2_with fail
          go_meet
          case rel => exact ⟨rfl, by go_split_ands; assumption⟩
      case rest =>
        obtain ⟨rfl, hB⟩ := hcut
        obtain ⟨Wb, rfl⟩ : ∃ X : World, X = wc := ⟨_, rfl⟩
        replace X1 := X1.below hB l1; replace X2 := X2.below hB l2; replace X3 := X3.below hB l3
        replace belW := belW.trans (hB.mono belW.size)
        clear hB l1 l2 l3
        have l1 := X1.lt; have l2 := X2.lt; have l3 := X3.lt
        go_upto_region 11 with fail
        go_cut [10] (fun s10 wx => s10 = .bool true ∧ Below Wb.heap.size Wb wx)
        case first =>
          have o1 := ha.ok; have o2 := hb.ok; have o3 := hc.ok
          have p23 := tw3_p hb hc
          have f1 := fits3 ha p23
          have f12 := fits3 ha hb; have f13 := fits3 ha hc
          have t12 := (tw6_t ha hb).ok; have t13 := (tw6_t ha hc).ok
          have e1 := beq_of (t_dist ha hb hc).1
          have e2 := beq_of (t_dist ha hb hc).2
          go_region_held3 (fun w' => w'.cell? ⟨g5, 0, none⟩ = some (.int .i64 a) ∧ w'.cell? ⟨g5, 1, none⟩ = some (.int .i64 b) ∧ w'.cell? ⟨g6, 0, none⟩ = some (.int .i64 c) ∧ w'.cell? ⟨g6, 1, none⟩ = some (.int .i64 d) ∧ w'.cell? ⟨g7, 0, none⟩ = some (.int .i64 e) ∧ w'.cell? ⟨g7, 1, none⟩ = some (.int .i64 f) ∧ Below Wb.heap.size Wb w') (first | (have q : Below Wb.heap.size Wb Wb.drew := (Below.refl _ _).drew; exact ⟨(X1.below q l1).1, (X1.below q l1).2, (X2.below q l2).1, (X2.below q l2).2, (X3.below q l3).1, (X3.below q l3).2, q⟩) | (go_split_ands; have q := Below.step (a := Wb) (by assumption) bn; exact ⟨(X1.below q l1).1, (X1.below q l1).2, (X2.below q l2).1, (X2.below q l2).2, (X3.below q l3).1, (X3.below q l3).2, q⟩)) (first | (go_at_call 23; refine (plusTwin_any _ _ _ _ _ (by assumption) (by assumption)).mono ?_; rintro e wn ⟨rfl, bn⟩) | (go_at_call 24; refine (timesTwin_any _ _ _ _ _ (by assumption)).mono ?_; rintro e wn ⟨rfl, bn⟩))
          all_goals
            go_wp2_with fail
            go_meet
            case rel => exact ⟨rfl, by go_split_ands; assumption⟩
        case rest =>
          obtain ⟨rfl, hB⟩ := hcut
          obtain ⟨Wc, rfl⟩ : ∃ X : World, X = wc := ⟨_, rfl⟩
          replace X1 := X1.below hB l1; replace X2 := X2.below hB l2; replace X3 := X3.below hB l3
          replace belW := belW.trans (hB.mono belW.size)
          clear hB l1 l2 l3
          have l1 := X1.lt; have l2 := X2.lt; have l3 := X3.lt
          go_upto_region 13 with fail
          have X4 : Box (Wc.alloc (.cells #[.int .i64 1000000001, .int .i64 1000000001] 23)) Wc.heap.size 1000000001 1000000001 := Box.mk_ _ _ _ _
          replace X1 := X1.below ((Below.refl Wc.heap.size Wc).alloc (Nat.le_refl _) (.cells #[.int .i64 1000000001, .int .i64 1000000001] 23)) l1
          replace belW := belW.alloc belW.size (.cells #[.int .i64 1000000001, .int .i64 1000000001] 23)
          clear l1 l2 l3 X2 X3
          generalize Wc.heap.size = gn at *
          generalize Wc.alloc (.cells #[.int .i64 1000000001, .int .i64 1000000001] 23) = Wd at *
          have X2 := X4; clear X4
          have l1 := X1.lt; have l2 := X2.lt
          have hi : Tw3 1000000001 1000000001 := .inl ⟨rfl, rfl⟩
          have h0 : Tw3 0 0 := .inr (by omega)
          have o1 := ha.ok; have o2 := hi.ok
          have f1 := fits3 ha hi; have f2 := fits3 ha h0
          have e1 := beq_of (p_inf ha).1
          have e2 := beq_of (p_inf ha).2
          have e3 := beq_of (t_inf (a := a) (b := b)).1
          have e4 := beq_of (t_inf (a := a) (b := b)).2
          have e5 := beq_of (t_zero (a := a) (b := b)).1
          have e6 := beq_of (t_zero (a := a) (b := b)).2
          go_region_held3 (fun w' => w'.cell? ⟨g5, 0, none⟩ = some (.int .i64 a) ∧ w'.cell? ⟨g5, 1, none⟩ = some (.int .i64 b) ∧ w'.cell? ⟨gn, 0, none⟩ = some (.int .i64 1000000001) ∧ w'.cell? ⟨gn, 1, none⟩ = some (.int .i64 1000000001) ∧ Below Wd.heap.size Wd w') (first | (have q : Below Wd.heap.size Wd Wd.drew := (Below.refl _ _).drew; exact ⟨(X1.below q l1).1, (X1.below q l1).2, (X2.below q l2).1, (X2.below q l2).2, q⟩) | (go_split_ands; have q := Below.step (a := Wd) (by assumption) bn; exact ⟨(X1.below q l1).1, (X1.below q l1).2, (X2.below q l2).1, (X2.below q l2).2, q⟩)) (first | (go_at_call 23; refine (plusTwin_any _ _ _ _ _ (by assumption) (by assumption)).mono ?_; rintro e wn ⟨rfl, bn⟩) | (go_at_call 24; refine (timesTwin_any _ _ _ _ _ (by assumption)).mono ?_; rintro e wn ⟨rfl, bn⟩))
          all_goals
            go_wp2_with fail
            go_ret
            exact ⟨rfl, belW.trans (Below.mono (by go_split_ands; assumption) belW.size)⟩
end Go.Proofs.Ytgepgokaodcpcaa.twinRing
