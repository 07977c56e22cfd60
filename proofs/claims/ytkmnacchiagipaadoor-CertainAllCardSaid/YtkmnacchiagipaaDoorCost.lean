/- weigh.Weigh, weigh.Reads, cost. -/
/- What ways from a place to an end cost. -/
/- What ways from a state to an end cost, by the words that they read and write (plain). -/
import Derived.Test.YtkmnacchiagipaaDoorWLeast
namespace Go.Proofs.YtkmnacchiagipaaDoor
open Go.RowKit

/-- the machine is small enough for words of these lengths -/
def CostOk (m : MachL) (lx ly : Nat) : Prop := ∃ (WW F : Int) (AA N : Nat), 0 ≤ WW ∧ WW ≤ 1000000000 ∧ (∀ s ∈ m.states, ∀ a ∈ s.arcs, a.wt ≤ WW) ∧ (∀ s ∈ m.states, s.final ≠ INF → s.final ≤ F) ∧ (∀ s ∈ m.states, s.arcs.length ≤ AA) ∧
  m.states.length * (lx + 1) * (ly + 1) ≤ N ∧ N * (AA + 1) + 1 ≤ 1000000 ∧ (N : Int) * WW + F ≤ 500000000
/-- r is the least of the costs T -/
def Best (T : Int → Prop) (r : Int) : Prop := (r = INF ∧ ∀ c, ¬ T c) ∨ (T r ∧ (∀ c, T c → r ≤ c) ∧ r ≤ 500000000)
theorem Best.eq {T : Int → Prop} {r r' : Int} (h : Best T r) (h' : Best T r') : r = r' := by
  rcases h with ⟨h1, h2⟩ | ⟨h1, h2, -⟩
  · rcases h' with ⟨k1, k2⟩ | ⟨k1, k2, -⟩
    · exact h1.trans k1.symm
    · exact absurd k1 (h2 _)
  · rcases h' with ⟨k1, k2⟩ | ⟨k1, k2, -⟩
    · exact absurd h1 (k2 _)
    · have := h2 _ k1; have := k2 _ h1; omega
theorem Best.congr {T T' : Int → Prop} {r : Int} (h : Best T r) (e : ∀ c, T c ↔ T' c) : Best T' r := by
  rcases h with ⟨h1, h2⟩ | ⟨h1, h2, h3⟩
  · exact .inl ⟨h1, fun c hc => h2 c ((e c).2 hc)⟩
  · exact .inr ⟨(e _).1 h1, fun c hc => h2 c ((e c).2 hc), h3⟩
theorem Best.same {T T' : Int → Prop} {r r' : Int} (h : Best T r) (h' : Best T' r') (e : ∀ c, T c ↔ T' c) : r = r' := (h.congr e).eq h'
theorem Tot.nonneg {m : MachL} (hv : Valid m) {x y : List Int} {any : Bool} {c : Int} (h : Tot m x y any c) : 0 ≤ c := by
  obtain ⟨p, d, hr, he, hf, rfl⟩ := h
  have := hr.nonneg hv
  unfold finalP at *
  cases hs : m.states[p.1]? with
  | none => rw [hs] at hf; exact absurd rfl hf
  | some s =>
    rw [hs] at hf
    simp only [Option.map_some, Option.getD_some] at hf ⊢
    have h2 := (hv.st s (List.mem_of_getElem? hs)).1
    unfold ValidFinal at h2
    omega
theorem Best.nonneg {m : MachL} (hv : Valid m) {x y : List Int} {any : Bool} {r : Int} (h : Best (Tot m x y any) r) : 0 ≤ r ∧ r ≤ INF := by
  have e : INF = 1000000001 := rfl
  rcases h with ⟨h1, -⟩ | ⟨h1, -, h3⟩
  · omega
  · have := h1.nonneg hv; omega

theorem least_best (v : Value) (m : MachL) (x y : List Int) (any : Bool) (A1 A2 : Option Addr) (c1 c2 : Nat) (w : World) (hm : MachAt w v m) (hv : Valid m)
    (hx : Rd w A1 x.length 1 (icells x)) (hy : Rd w A2 y.length 1 (icells y)) (hlx : x.length ≤ 12) (hly : y.length ≤ 12) (hc : CostOk m x.length y.length) :
    Calls Tryd.prog 97 #[v, .slice A1 x.length c1, .slice A2 y.length c2, .bool any] w fun e w' => ∃ r, e = .returned (.tuple #[.int .i64 r, .int .i64 0]) ∧ Best (Tot m x y any) r ∧ Below w.heap.size w w' := by
  obtain ⟨WW, F, AA, N, a1, a2, a3, a4, a5, a6, a7, a8⟩ := hc
  refine (least_any v m x y any A1 A2 c1 c2 WW F AA N w hm hv hx hy hlx hly a1 a2 a3 a4 a5 a6 a7).mono ?_
  rintro e w' ⟨r, err, rfl, hl, he, hb⟩
  obtain ⟨rfl, hbd⟩ := he (by omega)
  refine ⟨r, rfl, ?_, hb⟩
  have hi : INF = 1000000001 := rfl
  rcases hl with ⟨h1, -, h3⟩ | ⟨b, h1, h2, h3⟩
  · exact .inl ⟨h1, h3⟩
  · rcases h3 with ⟨h4, h5, -⟩ | ⟨_, _, h6⟩
    · subst h5; exact .inr ⟨h1, h2, by omega⟩
    · omega

set_option maxRecDepth 100000
set_option maxHeartbeats 2000000
theorem Weigh_any (v : Value) (m : MachL) (x y : List Int) (A1 A2 : Option Addr) (c1 c2 : Nat) (w : World) (hm : MachAt w v m) (hv : Valid m)
    (hx : Rd w A1 x.length 1 (icells x)) (hy : Rd w A2 y.length 1 (icells y)) (hlx : x.length ≤ 12) (hly : y.length ≤ 12) (hbx : ∀ a ∈ x, 1 ≤ a ∧ a ≤ 1000) (hby : ∀ a ∈ y, 1 ≤ a ∧ a ≤ 1000) (hc : CostOk m x.length y.length) :
    Calls Tryd.prog 62 #[v, .slice A1 x.length c1, .slice A2 y.length c2] w fun e w' => ∃ r, e = .returned (.tuple #[.int .i64 r, .int .i64 0]) ∧ Best (Tot m x y false) r ∧ Below w.heap.size w w' := by
  have CH := Lib.hid (fun W (hb : Below w.heap.size w W) => Check_ok v m W (hm.below hb) hv)
  have LE := Lib.hid (fun W (hb : Below w.heap.size w W) => least_best v m x y false A1 A2 c1 c2 W (hm.below hb) hv (hx.below hb rfl) (hy.below hb rfl) hlx hly hc)
  have WX := Lib.hid (fun W (hb : Below w.heap.size w W) => wword_ok A1 x.length c1 x W (hx.below hb rfl) hlx hbx)
  have WY := Lib.hid (fun W (hb : Below w.heap.size w W) => wword_ok A2 y.length c2 y W (hy.below hb rfl) hly hby)
  obtain ⟨A, c, rfl, hS⟩ := hm
  clear hS hx hy hbx hby hc
  generalize m.start = st at *
  generalize m.states.length = n at *
  go_enter Tryd.func62, Tryd.ntmps62
  go_wp2_with fail
  refine (CH.out _ (by repeat' (first | exact Below.refl _ _ | assumption | refine Below.drew ?_ | refine Below.alloc ?_ (by first | omega | (simp; done) | (simp; omega)) _ | refine Below.setCell ?_ (by first | omega | (simp; done) | (simp; omega)) _))).mono ?_; rintro e w1 ⟨rfl, bel⟩; obtain ⟨c1, f1⟩ := bcell bel; have z1 := bel.size; simp at z1; (try have y0 : w.heap.size < w1.heap.size := by omega); (try have y1 : w.heap.size + 1 < w1.heap.size := by omega); (try have y2 : w.heap.size + 1 + 1 < w1.heap.size := by omega); (try have y3 : w.heap.size + 1 + 1 + 1 < w1.heap.size := by omega); (try have y4 : w.heap.size + 1 + 1 + 1 + 1 < w1.heap.size := by omega); (try have y5 : w.heap.size + 1 + 1 + 1 + 1 + 1 < w1.heap.size := by omega); (try have y6 : w.heap.size + 1 + 1 + 1 + 1 + 1 + 1 < w1.heap.size := by omega)
  go_wp2_with fail
  refine (WX.out _ (by repeat' (first | exact Below.refl _ _ | assumption | refine Below.step ?_ bel | refine Below.drew ?_ | refine Below.alloc ?_ (by first | omega | (simp; done) | (simp; omega)) _ | refine Below.setCell ?_ (by first | omega | (simp; done) | (simp; omega)) _))).mono ?_; rintro e w2 ⟨rfl, rfl⟩
  go_wp2_with fail
  refine (WY.out _ (by repeat' (first | exact Below.refl _ _ | assumption | refine Below.step ?_ bel | refine Below.drew ?_ | refine Below.alloc ?_ (by first | omega | (simp; done) | (simp; omega)) _ | refine Below.setCell ?_ (by first | omega | (simp; done) | (simp; omega)) _))).mono ?_; rintro e w2 ⟨rfl, rfl⟩
  go_wp2_with fail
  refine (LE.out _ (by repeat' (first | exact Below.refl _ _ | assumption | refine Below.step ?_ bel | refine Below.drew ?_ | refine Below.alloc ?_ (by first | omega | (simp; done) | (simp; omega)) _ | refine Below.setCell ?_ (by first | omega | (simp; done) | (simp; omega)) _))).mono ?_; rintro e w2 ⟨r, rfl, hB, b2⟩
  have HB := Lib.hid hB; clear hB
  go_wp2_with fail
  go_ret2
  exact ⟨r, rfl, HB.out, (Below.trans ((by repeat' (first | exact Below.refl _ _ | assumption | refine Below.step ?_ bel | refine Below.drew ?_ | refine Below.alloc ?_ (by first | omega | (simp; done) | (simp; omega)) _ | refine Below.setCell ?_ (by first | omega | (simp; done) | (simp; omega)) _)) : Below w.heap.size w _) (b2.mono (by omega)))⟩
theorem cost_any (v : Value) (m : MachL) (x y : List Int) (A1 A2 : Option Addr) (c1 c2 : Nat) (w : World) (hm : MachAt w v m) (hv : Valid m)
    (hx : Rd w A1 x.length 1 (icells x)) (hy : Rd w A2 y.length 1 (icells y)) (hlx : x.length ≤ 12) (hly : y.length ≤ 12) (hbx : ∀ a ∈ x, 1 ≤ a ∧ a ≤ 1000) (hby : ∀ a ∈ y, 1 ≤ a ∧ a ≤ 1000) (hc : CostOk m x.length y.length) :
    Calls Tryd.prog 28 #[v, .slice A1 x.length c1, .slice A2 y.length c2] w fun e w' => ∃ r, e = .returned (.int .i64 r) ∧ Best (Tot m x y false) r ∧ Below w.heap.size w w' := by
  have LE := Lib.hid (fun W (hb : Below w.heap.size w W) => Weigh_any v m x y A1 A2 c1 c2 W (hm.below hb) hv (hx.below hb rfl) (hy.below hb rfl) hlx hly hbx hby hc)
  obtain ⟨A, c, rfl, hS⟩ := hm
  clear hS hx hy hbx hby hc
  generalize m.start = st at *
  generalize m.states.length = n at *
  go_enter Tryd.func28, Tryd.ntmps28
  go_wp2_with fail
  refine (LE.out _ (by repeat' (first | exact Below.refl _ _ | assumption | refine Below.drew ?_ | refine Below.alloc ?_ (by first | omega | (simp; done) | (simp; omega)) _ | refine Below.setCell ?_ (by first | omega | (simp; done) | (simp; omega)) _))).mono ?_; rintro e w2 ⟨r, rfl, hB, b2⟩
  have HB := Lib.hid hB; clear hB
  go_wp2_with fail
  go_ret
  exact ⟨r, rfl, HB.out, (Below.trans ((by repeat' (first | exact Below.refl _ _ | assumption | refine Below.drew ?_ | refine Below.alloc ?_ (by first | omega | (simp; done) | (simp; omega)) _ | refine Below.setCell ?_ (by first | omega | (simp; done) | (simp; omega)) _)) : Below w.heap.size w _) (b2.mono (by simp)))⟩
/-- the same, the words' lengths behind letters -/
theorem cost_n (v : Value) (m : MachL) (x y : List Int) (A1 A2 : Option Addr) (nx ny c1 c2 : Nat) (w : World) (ex : x.length = nx) (ey : y.length = ny) (hm : MachAt w v m) (hv : Valid m)
    (hx : Rd w A1 nx 1 (icells x)) (hy : Rd w A2 ny 1 (icells y)) (hlx : nx ≤ 12) (hly : ny ≤ 12) (hbx : ∀ a ∈ x, 1 ≤ a ∧ a ≤ 1000) (hby : ∀ a ∈ y, 1 ≤ a ∧ a ≤ 1000) (hc : CostOk m nx ny) :
    Calls Tryd.prog 28 #[v, .slice A1 nx c1, .slice A2 ny c2] w fun e w' => ∃ r, e = .returned (.int .i64 r) ∧ Best (Tot m x y false) r ∧ Below w.heap.size w w' := by
  subst ex; subst ey
  exact cost_any v m x y A1 A2 c1 c2 w hm hv hx hy hlx hly hbx hby hc
end Go.Proofs.YtkmnacchiagipaaDoor

namespace Go.Proofs.YtkmnacchiagipaaDoor

/-- what ways from a place to an end cost -/
inductive Acc (m : MachL) (x y : List Int) (any : Bool) : Pl → Int → Prop
  | fin {p : Pl} : endsP x y any p = true → finalP m p ≠ INF → Acc m x y any p (finalP m p)
  | arc {p : Pl} {a : ArcL} {q : Pl} {c : Int} : a ∈ arcsP m p → nextP x y any p a = some q → Acc m x y any q c → Acc m x y any p (a.wt + c)
theorem acc_start {m : MachL} {x y : List Int} {any : Bool} {p : Pl} {d : Int} (h : RW m x y any p d) : ∀ c, Acc m x y any p c → 0 ≤ m.start ∧ Acc m x y any (m.start.toNat, 0, 0) (d + c) := by
  induction h with
  | start h0 => intro c hc; rw [Int.zero_add]; exact ⟨h0, hc⟩
  | step _ ha hn ih => intro c hc; rw [Int.add_assoc]; exact ih _ (.arc ha hn hc)
theorem acc_tot {m : MachL} {x y : List Int} {any : Bool} {p : Pl} {c : Int} (h : Acc m x y any p c) : ∀ d, RW m x y any p d → Tot m x y any (d + c) := by
  induction h with
  | fin he hf => intro d hr; exact ⟨_, d, hr, he, hf, rfl⟩
  | arc ha hn _ ih => intro d hr; rw [← Int.add_assoc]; exact ih _ (hr.step ha hn)
theorem tot_acc {m : MachL} {x y : List Int} {any : Bool} {c : Int} : Tot m x y any c ↔ 0 ≤ m.start ∧ Acc m x y any (m.start.toNat, 0, 0) c := by
  constructor
  · rintro ⟨p, d, hr, he, hf, rfl⟩
    exact acc_start hr _ (.fin he hf)
  · rintro ⟨h0, h⟩
    have := acc_tot h 0 (.start h0)
    rwa [Int.zero_add] at this

end Go.Proofs.YtkmnacchiagipaaDoor

namespace Go.Proofs.YtkmnacchiagipaaDoor

/-- a label as a word -/
def pre (lab : Int) : List Int := if lab = 0 then [] else [lab]
inductive AccW (m : MachL) : Nat → List Int → List Int → Int → Prop
  | fin {q : Nat} {s : StateL} : m.states[q]? = some s → s.final ≠ INF → AccW m q [] [] s.final
  | arc {q : Nat} {s : StateL} {a : ArcL} {x y : List Int} {c : Int} : m.states[q]? = some s → a ∈ s.arcs → AccW m a.to.toNat x y c → AccW m q (pre a.inn ++ x) (pre a.out ++ y) (a.wt + c)

theorem drop_step {x : List Int} {i : Nat} {lab : Int} (h : stepOk x i lab = true) : x.drop i = pre lab ++ x.drop (stepAt i lab) := by
  unfold stepOk at h; unfold stepAt pre
  split
  · rfl
  · rename_i hl
    rw [if_neg hl] at h
    simp only [hitB, decide_eq_true_eq] at h
    obtain ⟨h1, h2⟩ := List.getElem?_eq_some_iff.1 h
    rw [List.drop_eq_getElem_cons h1, h2]; rfl
theorem step_drop {x x' : List Int} {i : Nat} {lab : Int} (h : x.drop i = pre lab ++ x') : stepOk x i lab = true ∧ x' = x.drop (stepAt i lab) := by
  unfold stepOk stepAt
  unfold pre at h
  split
  · rename_i hl
    rw [if_pos hl] at h
    exact ⟨rfl, by simpa using h.symm⟩
  · rename_i hl
    rw [if_neg hl] at h
    have h1 : i < x.length := by
      rcases Nat.lt_or_ge i x.length with h1 | h1
      · exact h1
      · rw [List.drop_of_length_le h1] at h; simp at h
    rw [List.drop_eq_getElem_cons h1] at h
    simp only [List.singleton_append, List.cons.injEq] at h
    refine ⟨?_, h.2.symm⟩
    simp only [hitB, decide_eq_true_eq]
    rw [List.getElem?_eq_getElem h1, h.1]
theorem acc_accW {m : MachL} {x y : List Int} {p : Pl} {c : Int} (h : Acc m x y false p c) : AccW m p.1 (x.drop p.2.1) (y.drop p.2.2) c := by
  induction h with
  | @fin p he hf =>
    unfold endsP at he
    simp only [Bool.false_or, Bool.and_eq_true, beq_iff_eq] at he
    rw [he.1, he.2, List.drop_length, List.drop_length]
    unfold finalP at *
    cases hs : m.states[p.1]? with
    | none => rw [hs] at hf; exact absurd rfl hf
    | some s =>
      rw [hs] at hf
      exact AccW.fin hs hf
  | @arc p a q c ha hn _ ih =>
    obtain ⟨s, hs, _, has⟩ := arcsP_mem ha
    unfold nextP at hn
    simp only [Bool.false_or, Bool.false_eq_true, if_false] at hn
    split at hn
    · rename_i hh
      simp only [Bool.and_eq_true] at hh
      cases hn
      rw [drop_step hh.1, drop_step hh.2]
      exact AccW.arc hs has ih
    · cases hn
theorem accW_acc {m : MachL} {x y : List Int} {q : Nat} {u v : List Int} {c : Int} (h : AccW m q u v c) : ∀ i j, i ≤ x.length → j ≤ y.length → u = x.drop i → v = y.drop j → Acc m x y false (q, i, j) c := by
  induction h with
  | @fin q s hs hf =>
    intro i j hi hj hu hv
    have h1 := congrArg List.length hu; have h2 := congrArg List.length hv
    simp only [List.length_nil, List.length_drop] at h1 h2
    have e : finalP m (q, i, j) = s.final := by unfold finalP; simp only [hs]; rfl
    rw [← e]
    refine Acc.fin ?_ (by rw [e]; exact hf)
    unfold endsP
    simp only [Bool.false_or, Bool.and_eq_true, beq_iff_eq]; omega
  | @arc q s a x' y' c hs ha _ ih =>
    intro i j hi hj hu hv
    obtain ⟨h1, h2⟩ := step_drop hu.symm
    obtain ⟨h3, h4⟩ := step_drop hv.symm
    refine Acc.arc (a := a) (q := (a.to.toNat, stepAt i a.inn, stepAt j a.out)) ?_ ?_ (ih _ _ (stepAt_le h1 hi) (stepAt_le h3 hj) h2 h4)
    · unfold arcsP; simp only [hs]; exact ha
    · unfold nextP
      simp only [Bool.false_or, Bool.false_eq_true, if_false]
      rw [if_pos (by rw [h1, h3]; rfl)]
/-- the costs of two words in a machine -/
theorem tot_accW {m : MachL} {x y : List Int} {c : Int} : Tot m x y false c ↔ 0 ≤ m.start ∧ AccW m m.start.toNat x y c := by
  rw [tot_acc]
  refine and_congr_right fun _ => ⟨fun h => ?_, fun h => accW_acc h 0 0 (Nat.zero_le _) (Nat.zero_le _) rfl rfl⟩
  have := acc_accW h
  simpa using this
theorem AccW.nonneg {m : MachL} (hv : Valid m) {q : Nat} {x y : List Int} {c : Int} (h : AccW m q x y c) : 0 ≤ c := by
  induction h with
  | @fin q s hs hf =>
    have h2 := (hv.st s (List.mem_of_getElem? hs)).1
    unfold ValidFinal at h2
    have : INF = 1000000001 := rfl
    omega
  | @arc q s a x y c hs ha _ ih =>
    have := ((hv.st s (List.mem_of_getElem? hs)).2 a ha).w0
    omega
theorem AccW.lt {m : MachL} {q : Nat} {x y : List Int} {c : Int} (h : AccW m q x y c) : q < m.states.length := by
  cases h with
  | fin hs _ => exact (List.getElem?_eq_some_iff.1 hs).1
  | arc hs _ _ => exact (List.getElem?_eq_some_iff.1 hs).1
end Go.Proofs.YtkmnacchiagipaaDoor
