/- The walk of InvertTwice. -/
import Derived.Test.YtgepgokaodcpcaaTurn2
import Derived.Test.YtgepgokaodcpcaaAlike
namespace Go.Proofs.Ytgepgokaodcpcaa
open Go.RowKit

theorem pick_b (n m : Int) (hm : 1 ≤ m) : 0 ≤ pick n m ∧ pick n m < m := ⟨pick_lo n m hm, pick_hi n m hm⟩

theorem valid_mkArc (full : Bool) (n : Int) (hn : 1 ≤ n) (e : ArcL) : ValidArc n (mkArc full n e) := by
  have h1 := pick_b e.inn 3 (by omega); have h2 := pick_b e.out 3 (by omega); have h3 := pick_b e.wt 10 (by omega); have h4 := pick_b e.to n hn
  unfold mkArc
  refine ⟨?_, ?_, ?_, ?_, ?_, ?_, ?_, ?_⟩ <;> simp only <;> (try split) <;> omega

theorem mkMach_len (r : RawL) (k : Int) (full : Bool) (k1 : 1 ≤ k) : ((mkMach r k full).states.length : Int) = mkN r k := by
  unfold mkMach; rw [mkStates_len]; unfold mkN; omega

theorem mkArcs_len (full : Bool) (n : Int) (x : NodeL) : (mkArcs full n x).length ≤ 4 := by unfold mkArcs; simp; omega

theorem mkState_arcs_len (full : Bool) (n : Int) (x : Option NodeL) : (mkState full n x).arcs.length ≤ 4 := by
  cases x with
  | none => simp [mkState]
  | some x => exact mkArcs_len full n x

theorem sum_le4 (ss : List StateL) (h : ∀ s ∈ ss, s.arcs.length ≤ 4) : arcsOf ss ≤ 4 * ss.length := by
  unfold arcsOf
  induction ss with
  | nil => simp
  | cons s ss ih =>
    have h1 := h s (by simp)
    have h2 := ih (fun x hx => h x (by simp [hx]))
    simp only [List.map_cons, List.sum_cons, List.length_cons]
    omega

theorem valid_made (r : RawL) (k : Int) (full : Bool) (k1 : 1 ≤ k) (k2 : k ≤ 60) : Valid (mkMach r k full) := by
  have hl := mkMach_len r k full k1
  have n1 : 1 ≤ mkN r k := by unfold mkN; omega
  have n2 : mkN r k ≤ 60 := by unfold mkN; omega
  have hst : ∀ s ∈ (mkMach r k full).states, ∃ x, s = mkState full (mkN r k) x := by
    intro s hs
    unfold mkMach mkStates at hs
    obtain ⟨i, -, rfl⟩ := List.mem_map.1 hs
    exact ⟨_, rfl⟩
  have h4 : arcsOf (mkMach r k full).states ≤ 4 * (mkMach r k full).states.length := sum_le4 _ (fun s hs => by
    obtain ⟨x, rfl⟩ := hst s hs
    exact mkState_arcs_len _ _ _)
  have hs := pick_b r.start (mkN r k) n1
  refine ⟨by omega, by omega, ?_, ?_, ?_⟩
  · show -1 ≤ pick r.start (mkN r k); omega
  · rw [hl]; exact hs.2
  · intro s hs
    obtain ⟨x, rfl⟩ := hst s hs
    rw [hl]
    cases x with
    | none => exact ⟨.inl ⟨by simp [mkState], by simp [mkState]⟩, fun a ha => by simp [mkState] at ha⟩
    | some x =>
      refine ⟨?_, fun a ha => ?_⟩
      · unfold mkState mkFinal ValidFinal
        simp only
        have := pick_b x.final 10 (by omega)
        split <;> omega
      · simp only [mkState, mkArcs] at ha
        obtain ⟨e, -, rfl⟩ := List.mem_map.1 ha
        exact valid_mkArc full _ n1 e

theorem mk_arcs_small (r : RawL) (k : Int) (full : Bool) : ∀ s ∈ (mkMach r k full).states, s.arcs.length ≤ 4 := by
  intro s hs
  unfold mkMach mkStates at hs
  obtain ⟨i, -, rfl⟩ := List.mem_map.1 hs
  exact mkState_arcs_len _ _ _

theorem invA_invA (a : ArcL) : invA (invA a) = a := rfl
theorem each_each (F G : ArcL → ArcL) (m : MachL) : eachM F (eachM G m) = eachM (fun a => F (G a)) m := by
  simp [eachM, Function.comp_def]
theorem each_id (m : MachL) : eachM (fun a => a) m = m := by
  cases m with
  | mk st ss =>
    simp only [eachM, List.map_id']
theorem inv_valid (n : Int) (a : ArcL) (h : ValidArc n a) : ValidArc n (invA a) := ⟨h.o0, h.o1, h.i0, h.i1, h.w0, h.w1, h.t0, h.t1⟩
theorem read_valid (n : Int) (a : ArcL) (h : ValidArc n a) : ValidArc n (readA a) := ⟨h.i0, h.i1, h.i0, h.i1, h.w0, h.w1, h.t0, h.t1⟩
theorem write_valid (n : Int) (a : ArcL) (h : ValidArc n a) : ValidArc n (writeA a) := ⟨h.o0, h.o1, h.o0, h.o1, h.w0, h.w1, h.t0, h.t1⟩
theorem arcs_le_of (ss : List StateL) (s : StateL) (hs : s ∈ ss) : s.arcs.length ≤ arcsOf ss := by
  unfold arcsOf
  induction ss with
  | nil => simp at hs
  | cons x xs ih =>
    simp only [List.map_cons, List.sum_cons]
    rcases List.mem_cons.1 hs with rfl | hs
    · omega
    · have := ih hs; omega
theorem valid_arcs_le {m : MachL} (h : Valid m) : ∀ s ∈ m.states, s.arcs.length ≤ 1000000 := fun s hs => by
  have := h.arcs; have := arcs_le_of _ s hs; omega

theorem machAt_eq {w : World} {v : Value} {x y : MachL} (h : MachAt w v x) (e : x = y) : MachAt w v y := e ▸ h

namespace invertTwice
set_option maxRecDepth 100000 in
set_option maxHeartbeats 8000000 in
theorem walk {w : World} (v : Value) (r : RawL) (hr : RawArg w v r) :
    Calls Try.prog 9 #[v] w fun e w' => e = .returned (.bool true) ∧ Below w.heap.size w w' := by
  have hm : Valid (mkMach r 8 false) := valid_made r 8 false (by omega) (by omega)
  have HMD := Lib.hid (fun W hb => made_any v r 8 false W (hr.below hb) (by omega) (by omega))
  obtain ⟨hst, hlen, A, c, rfl, hN⟩ := hr
  generalize mkMach r 8 false = m at *
  have hi : Valid (eachM invA m) := eachM_valid inv_valid hm
  have e1 : eachM invA (eachM invA m) = m := by rw [each_each]; exact each_id m
  have e2 : eachM writeA (eachM invA m) = eachM readA m := by rw [each_each]; rfl
  have E1 := Lib.hid e1; have E2 := Lib.hid e2
  have HV := Lib.hid hm; have HI := Lib.hid hi
  have HR := Lib.hid (eachM_valid (F := readA) read_valid hm)
  clear hN hm hi e1 e2 hst hlen
  go_enter Try.func9, Try.ntmps9
  go_wp2_with fail
  refine (HMD.out _ (by repeat' (first | exact Below.refl _ _ | assumption | refine Below.drew ?_ | refine Below.alloc ?_ (by first | omega | (simp; done) | (simp; omega)) _ | refine Below.setCell ?_ (by first | omega | (simp; done) | (simp; omega)) _))).mono ?_; rintro e w1 ⟨mv, rfl, o1, r1⟩
  have a1 := o1.at_; obtain ⟨A1, q1, rfl, -⟩ := a1
  have m1 := Lib.hid o1.at_
  obtain ⟨c1, -⟩ := bcell r1
  have z1 := r1.size
  clear o1 HMD
  go_wp2_with fail
  refine (Invert_any _ m _ (m1.out.below ((Below.refl _ _).alloc (Nat.le_refl _) _)) HV.out).mono ?_; rintro e w2 ⟨mv2, rfl, o2, r2⟩
  have a2 := o2.at_; obtain ⟨A2, q2, rfl, -⟩ := a2
  have m2 := Lib.hid o2.at_
  obtain ⟨c2, -⟩ := bcell r2
  have z2 := r2.size
  simp at z1 z2
  have y12 : w1.heap.size < w2.heap.size := by omega
  clear o2
  have B2 : Below w1.heap.size w1 w2 := (Below.alloc (Below.refl _ _) (Nat.le_refl _) _).trans (r2.mono (by simp))
  go_wp2_with fail
  refine (Invert_any _ (eachM invA m) _ (m2.out.below ((Below.refl _ _).alloc (Nat.le_refl _) _)) HI.out).mono ?_; rintro e w3 ⟨mv3, rfl, o3, r3⟩
  have a3 := o3.at_; obtain ⟨A3, q3, rfl, -⟩ := a3
  have m3 := Lib.hid o3.at_
  obtain ⟨c3, -⟩ := bcell r3
  have z3 := r3.size
  simp at z3
  have y13 : w1.heap.size < w3.heap.size := by omega
  have y23 : w2.heap.size < w3.heap.size := by omega
  have B3 : Below w2.heap.size w2 w3 := (Below.alloc (Below.refl _ _) (Nat.le_refl _) _).trans (r3.mono (by simp))
  clear o3
  go_wp2_with fail
  refine (Reads_any _ m _ (m1.out.below (((Below.step B2 B3).alloc (by have := (Below.step B2 B3).size; omega) _))) HV.out).mono ?_; rintro e w4 ⟨mv4, rfl, o4, r4⟩
  have a4 := o4.at_; obtain ⟨A4, q4, rfl, -⟩ := a4
  have m4 := Lib.hid o4.at_
  obtain ⟨c4, -⟩ := bcell r4
  have z4 := r4.size
  simp at z4
  have y14 : w1.heap.size < w4.heap.size := by omega
  have y24 : w2.heap.size < w4.heap.size := by omega
  have y34 : w3.heap.size < w4.heap.size := by omega
  have B4 : Below w3.heap.size w3 w4 := (Below.alloc (Below.refl _ _) (Nat.le_refl _) _).trans (r4.mono (by simp))
  clear o4
  go_wp2_with fail
  refine (Writes_any _ (eachM invA m) _ (m2.out.below (((Below.step B3 B4).alloc (by have := (Below.step B3 B4).size; omega) _))) HI.out).mono ?_; rintro e w5 ⟨mv5, rfl, o5, r5⟩
  have a5 := o5.at_; obtain ⟨A5, q5, rfl, -⟩ := a5
  have m5 := Lib.hid o5.at_
  obtain ⟨c5, -⟩ := bcell r5
  have z5 := r5.size
  simp at z5
  have y15 : w1.heap.size < w5.heap.size := by omega
  have y25 : w2.heap.size < w5.heap.size := by omega
  have y35 : w3.heap.size < w5.heap.size := by omega
  have y45 : w4.heap.size < w5.heap.size := by omega
  have B5 : Below w4.heap.size w4 w5 := (Below.alloc (Below.refl _ _) (Nat.le_refl _) _).trans (r5.mono (by simp))
  clear o5
  have b05 : Below w.heap.size w w5 := (((Below.alloc (Below.refl _ _) (Nat.le_refl _) _).trans (r1.mono (by simp))).trans ((Below.step (Below.step (Below.step B2 B3) B4) B5).mono (by omega)))
  have M1 := m1.out.below (Below.step (Below.step (Below.step B2 B3) B4) B5)
  have M3 := m3.out.below (Below.step B4 B5)
  have M4 := m4.out.below B5
  have M5 := m5.out
  replace M3 := machAt_eq M3 E1.out
  replace M5 := machAt_eq M5 E2.out
  have N1 := Lib.hid M1; have N3 := Lib.hid M3; have N4 := Lib.hid M4; have N5 := Lib.hid M5
  clear M1 M3 M4 M5
  go_wp2_with fail
  refine (alike_yes _ _ m _ (N3.out.below ((Below.refl _ _).alloc (Nat.le_refl _) _)) (N1.out.below ((Below.refl _ _).alloc (Nat.le_refl _) _)) HV.out.size (valid_arcs_le HV.out)).mono ?_; rintro e w6 ⟨rfl, r6⟩
  obtain ⟨c6, -⟩ := bcell r6
  have z6 := r6.size
  simp at z6
  have y36 : w4.heap.size < w6.heap.size := by omega
  have y46 : w5.heap.size < w6.heap.size := by omega
  have B6 : Below w5.heap.size w5 w6 := (Below.alloc (Below.refl _ _) (Nat.le_refl _) _).trans (r6.mono (by simp))
  go_wp2_with fail
  refine (alike_yes _ _ (eachM readA m) _ (N4.out.below B6) (N5.out.below B6) HR.out.size (valid_arcs_le HR.out)).mono ?_; rintro e w7 ⟨rfl, r7⟩
  go_wp2_with fail
  go_ret
  exact ⟨rfl, b05.trans ((Below.step B6 r7).mono (by have := b05.size; omega))⟩
end invertTwice
end Go.Proofs.Ytgepgokaodcpcaa
