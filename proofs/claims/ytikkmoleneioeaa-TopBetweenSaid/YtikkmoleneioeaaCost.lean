/- weigh.Weigh, weigh.Reads, cost. -/
import Derived.Test.YtikkmoleneioeaaWLeast
namespace Go.Proofs.Ytikkmoleneioeaa
open Go.RowKit

/-- the machine is small enough for words of these lengths -/
def CostOk (m : MachL) (lx ly : Nat) : Prop := ∃ (WW F : Int) (AA N : Nat), 0 ≤ WW ∧ WW ≤ 1000000000 ∧ (∀ s ∈ m.states, ∀ a ∈ s.arcs, a.wt ≤ WW) ∧ (∀ s ∈ m.states, s.final ≠ INF → s.final ≤ F) ∧ (∀ s ∈ m.states, s.arcs.length ≤ AA) ∧
  m.states.length * (lx + 1) * (ly + 1) ≤ N ∧ N * (AA + 1) + 1 ≤ 1000000 ∧ (N : Int) * WW + F ≤ 500000000
/-- r is the least of the costs T -/
def Best (T : Int → Prop) (r : Int) : Prop := (r = INF ∧ ∀ c, ¬ T c) ∨ (T r ∧ (∀ c, T c → r ≤ c) ∧ r ≤ 500000000)
theorem Best.eq {T : Int → Prop} {r r' : Int} (h : Best T r) (h' : Best T r') : r = r' := by
  rcases h with ⟨h1, h2⟩ | ⟨h1, h2, -⟩
  · rcases h' with ⟨k1, k2⟩ | ⟨k1, k2, -⟩
    · exact h1.trans k1.symm
    · exact absurd k1 (h2 _)
  · rcases h' with ⟨k1, k2⟩ | ⟨k1, k2, -⟩
    · exact absurd h1 (k2 _)
    · have := h2 _ k1; have := k2 _ h1; omega
theorem Best.congr {T T' : Int → Prop} {r : Int} (h : Best T r) (e : ∀ c, T c ↔ T' c) : Best T' r := by
  rcases h with ⟨h1, h2⟩ | ⟨h1, h2, h3⟩
  · exact .inl ⟨h1, fun c hc => h2 c ((e c).2 hc)⟩
  · exact .inr ⟨(e _).1 h1, fun c hc => h2 c ((e c).2 hc), h3⟩
theorem Best.same {T T' : Int → Prop} {r r' : Int} (h : Best T r) (h' : Best T' r') (e : ∀ c, T c ↔ T' c) : r = r' := (h.congr e).eq h'
theorem Tot.nonneg {m : MachL} (hv : Valid m) {x y : List Int} {any : Bool} {c : Int} (h : Tot m x y any c) : 0 ≤ c := by
  obtain ⟨p, d, hr, he, hf, rfl⟩ := h
  have := hr.nonneg hv
  unfold finalP at *
  cases hs : m.states[p.1]? with
  | none => rw [hs] at hf; exact absurd rfl hf
  | some s =>
    rw [hs] at hf
    simp only [Option.map_some, Option.getD_some] at hf ⊢
    have h2 := (hv.st s (List.mem_of_getElem? hs)).1
    unfold ValidFinal at h2
    omega
theorem Best.nonneg {m : MachL} (hv : Valid m) {x y : List Int} {any : Bool} {r : Int} (h : Best (Tot m x y any) r) : 0 ≤ r ∧ r ≤ INF := by
  have e : INF = 1000000001 := rfl
  rcases h with ⟨h1, -⟩ | ⟨h1, -, h3⟩
  · omega
  · have := h1.nonneg hv; omega

theorem least_best (v : Value) (m : MachL) (x y : List Int) (any : Bool) (A1 A2 : Option Addr) (c1 c2 : Nat) (w : World) (hm : MachAt w v m) (hv : Valid m)
    (hx : Rd w A1 x.length 1 (icells x)) (hy : Rd w A2 y.length 1 (icells y)) (hlx : x.length ≤ 12) (hly : y.length ≤ 12) (hc : CostOk m x.length y.length) :
    Calls Try.prog 34 #[v, .slice A1 x.length c1, .slice A2 y.length c2, .bool any] w fun e w' => ∃ r, e = .returned (.tuple #[.int .i64 r, .int .i64 0]) ∧ Best (Tot m x y any) r ∧ Below w.heap.size w w' := by
  obtain ⟨WW, F, AA, N, a1, a2, a3, a4, a5, a6, a7, a8⟩ := hc
  refine (least_any v m x y any A1 A2 c1 c2 WW F AA N w hm hv hx hy hlx hly a1 a2 a3 a4 a5 a6 a7).mono ?_
  rintro e w' ⟨r, err, rfl, hl, he, hb⟩
  obtain ⟨rfl, hbd⟩ := he (by omega)
  refine ⟨r, rfl, ?_, hb⟩
  have hi : INF = 1000000001 := rfl
  rcases hl with ⟨h1, -, h3⟩ | ⟨b, h1, h2, h3⟩
  · exact .inl ⟨h1, h3⟩
  · rcases h3 with ⟨h4, h5, -⟩ | ⟨_, _, h6⟩
    · subst h5; exact .inr ⟨h1, h2, by omega⟩
    · omega

set_option maxRecDepth 100000
set_option maxHeartbeats 2000000
theorem Weigh_any (v : Value) (m : MachL) (x y : List Int) (A1 A2 : Option Addr) (c1 c2 : Nat) (w : World) (hm : MachAt w v m) (hv : Valid m)
    (hx : Rd w A1 x.length 1 (icells x)) (hy : Rd w A2 y.length 1 (icells y)) (hlx : x.length ≤ 12) (hly : y.length ≤ 12) (hbx : ∀ a ∈ x, 1 ≤ a ∧ a ≤ 1000) (hby : ∀ a ∈ y, 1 ≤ a ∧ a ≤ 1000) (hc : CostOk m x.length y.length) :
    Calls Try.prog 32 #[v, .slice A1 x.length c1, .slice A2 y.length c2] w fun e w' => ∃ r, e = .returned (.tuple #[.int .i64 r, .int .i64 0]) ∧ Best (Tot m x y false) r ∧ Below w.heap.size w w' := by
  have CH := Lib.hid (fun W (hb : Below w.heap.size w W) => Check_ok v m W (hm.below hb) hv)
  have LE := Lib.hid (fun W (hb : Below w.heap.size w W) => least_best v m x y false A1 A2 c1 c2 W (hm.below hb) hv (hx.below hb rfl) (hy.below hb rfl) hlx hly hc)
  have WX := Lib.hid (fun W (hb : Below w.heap.size w W) => wword_ok A1 x.length c1 x W (hx.below hb rfl) hlx hbx)
  have WY := Lib.hid (fun W (hb : Below w.heap.size w W) => wword_ok A2 y.length c2 y W (hy.below hb rfl) hly hby)
  obtain ⟨A, c, rfl, hS⟩ := hm
  clear hS hx hy hbx hby hc
  generalize m.start = st at *
  generalize m.states.length = n at *
  go_enter Try.func32, Try.ntmps32
  go_wp2_with fail
  refine (CH.out _ (by repeat' (first | exact Below.refl _ _ | assumption | refine Below.drew ?_ | refine Below.alloc ?_ (by first | omega | (simp; done) | (simp; omega)) _ | refine Below.setCell ?_ (by first | omega | (simp; done) | (simp; omega)) _))).mono ?_; rintro e w1 ⟨rfl, bel⟩; obtain ⟨c1, f1⟩ := bcell bel; have z1 := bel.size; simp at z1; (try have y0 : w.heap.size < w1.heap.size := by omega); (try have y1 : w.heap.size + 1 < w1.heap.size := by omega); (try have y2 : w.heap.size + 1 + 1 < w1.heap.size := by omega); (try have y3 : w.heap.size + 1 + 1 + 1 < w1.heap.size := by omega); (try have y4 : w.heap.size + 1 + 1 + 1 + 1 < w1.heap.size := by omega); (try have y5 : w.heap.size + 1 + 1 + 1 + 1 + 1 < w1.heap.size := by omega); (try have y6 : w.heap.size + 1 + 1 + 1 + 1 + 1 + 1 < w1.heap.size := by omega)
  go_wp2_with fail
  refine (WX.out _ (by repeat' (first | exact Below.refl _ _ | assumption | refine Below.step ?_ bel | refine Below.drew ?_ | refine Below.alloc ?_ (by first | omega | (simp; done) | (simp; omega)) _ | refine Below.setCell ?_ (by first | omega | (simp; done) | (simp; omega)) _))).mono ?_; rintro e w2 ⟨rfl, rfl⟩
  go_wp2_with fail
  refine (WY.out _ (by repeat' (first | exact Below.refl _ _ | assumption | refine Below.step ?_ bel | refine Below.drew ?_ | refine Below.alloc ?_ (by first | omega | (simp; done) | (simp; omega)) _ | refine Below.setCell ?_ (by first | omega | (simp; done) | (simp; omega)) _))).mono ?_; rintro e w2 ⟨rfl, rfl⟩
  go_wp2_with fail
  refine (LE.out _ (by repeat' (first | exact Below.refl _ _ | assumption | refine Below.step ?_ bel | refine Below.drew ?_ | refine Below.alloc ?_ (by first | omega | (simp; done) | (simp; omega)) _ | refine Below.setCell ?_ (by first | omega | (simp; done) | (simp; omega)) _))).mono ?_; rintro e w2 ⟨r, rfl, hB, b2⟩
  have HB := Lib.hid hB; clear hB
  go_wp2_with fail
  go_ret2
  exact ⟨r, rfl, HB.out, (Below.trans ((by repeat' (first | exact Below.refl _ _ | assumption | refine Below.step ?_ bel | refine Below.drew ?_ | refine Below.alloc ?_ (by first | omega | (simp; done) | (simp; omega)) _ | refine Below.setCell ?_ (by first | omega | (simp; done) | (simp; omega)) _)) : Below w.heap.size w _) (b2.mono (by omega)))⟩
theorem WReads_any (v : Value) (m : MachL) (x : List Int) (A1 : Option Addr) (c1 : Nat) (w : World) (hm : MachAt w v m) (hv : Valid m)
    (hx : Rd w A1 x.length 1 (icells x)) (hlx : x.length ≤ 12) (hbx : ∀ a ∈ x, 1 ≤ a ∧ a ≤ 1000) (hc : CostOk m x.length 0) :
    Calls Try.prog 16 #[v, .slice A1 x.length c1] w fun e w' => ∃ r, e = .returned (.tuple #[.int .i64 r, .int .i64 0]) ∧ Best (Tot m x [] true) r ∧ Below w.heap.size w w' := by
  have CH := Lib.hid (fun W (hb : Below w.heap.size w W) => Check_ok v m W (hm.below hb) hv)
  have LE := Lib.hid (fun W (hb : Below w.heap.size w W) => least_best v m x [] true A1 none c1 0 W (hm.below hb) hv (hx.below hb rfl) (Rd.nil _ _ _) hlx (by simp) hc)
  have WX := Lib.hid (fun W (hb : Below w.heap.size w W) => wword_ok A1 x.length c1 x W (hx.below hb rfl) hlx hbx)
  obtain ⟨A, c, rfl, hS⟩ := hm
  clear hS hx hbx hc
  generalize m.start = st at *
  generalize m.states.length = n at *
  simp only [List.length_nil] at LE
  go_enter Try.func16, Try.ntmps16
  go_wp2_with fail
  refine (CH.out _ (by repeat' (first | exact Below.refl _ _ | assumption | refine Below.drew ?_ | refine Below.alloc ?_ (by first | omega | (simp; done) | (simp; omega)) _ | refine Below.setCell ?_ (by first | omega | (simp; done) | (simp; omega)) _))).mono ?_; rintro e w1 ⟨rfl, bel⟩; obtain ⟨c1, f1⟩ := bcell bel; have z1 := bel.size; simp at z1; (try have y0 : w.heap.size < w1.heap.size := by omega); (try have y1 : w.heap.size + 1 < w1.heap.size := by omega); (try have y2 : w.heap.size + 1 + 1 < w1.heap.size := by omega); (try have y3 : w.heap.size + 1 + 1 + 1 < w1.heap.size := by omega); (try have y4 : w.heap.size + 1 + 1 + 1 + 1 < w1.heap.size := by omega); (try have y5 : w.heap.size + 1 + 1 + 1 + 1 + 1 < w1.heap.size := by omega); (try have y6 : w.heap.size + 1 + 1 + 1 + 1 + 1 + 1 < w1.heap.size := by omega)
  go_wp2_with fail
  refine (WX.out _ (by repeat' (first | exact Below.refl _ _ | assumption | refine Below.step ?_ bel | refine Below.drew ?_ | refine Below.alloc ?_ (by first | omega | (simp; done) | (simp; omega)) _ | refine Below.setCell ?_ (by first | omega | (simp; done) | (simp; omega)) _))).mono ?_; rintro e w2 ⟨rfl, rfl⟩
  go_wp2_with fail
  refine (LE.out _ (by repeat' (first | exact Below.refl _ _ | assumption | refine Below.step ?_ bel | refine Below.drew ?_ | refine Below.alloc ?_ (by first | omega | (simp; done) | (simp; omega)) _ | refine Below.setCell ?_ (by first | omega | (simp; done) | (simp; omega)) _))).mono ?_; rintro e w2 ⟨r, rfl, hB, b2⟩
  have HB := Lib.hid hB; clear hB
  go_wp2_with fail
  go_ret2
  exact ⟨r, rfl, HB.out, (Below.trans ((by repeat' (first | exact Below.refl _ _ | assumption | refine Below.step ?_ bel | refine Below.drew ?_ | refine Below.alloc ?_ (by first | omega | (simp; done) | (simp; omega)) _ | refine Below.setCell ?_ (by first | omega | (simp; done) | (simp; omega)) _)) : Below w.heap.size w _) (b2.mono (by omega)))⟩
theorem cost_any (v : Value) (m : MachL) (x y : List Int) (A1 A2 : Option Addr) (c1 c2 : Nat) (w : World) (hm : MachAt w v m) (hv : Valid m)
    (hx : Rd w A1 x.length 1 (icells x)) (hy : Rd w A2 y.length 1 (icells y)) (hlx : x.length ≤ 12) (hly : y.length ≤ 12) (hbx : ∀ a ∈ x, 1 ≤ a ∧ a ≤ 1000) (hby : ∀ a ∈ y, 1 ≤ a ∧ a ≤ 1000) (hc : CostOk m x.length y.length) :
    Calls Try.prog 15 #[v, .slice A1 x.length c1, .slice A2 y.length c2] w fun e w' => ∃ r, e = .returned (.int .i64 r) ∧ Best (Tot m x y false) r ∧ Below w.heap.size w w' := by
  have LE := Lib.hid (fun W (hb : Below w.heap.size w W) => Weigh_any v m x y A1 A2 c1 c2 W (hm.below hb) hv (hx.below hb rfl) (hy.below hb rfl) hlx hly hbx hby hc)
  obtain ⟨A, c, rfl, hS⟩ := hm
  clear hS hx hy hbx hby hc
  generalize m.start = st at *
  generalize m.states.length = n at *
  go_enter Try.func15, Try.ntmps15
  go_wp2_with fail
  refine (LE.out _ (by repeat' (first | exact Below.refl _ _ | assumption | refine Below.drew ?_ | refine Below.alloc ?_ (by first | omega | (simp; done) | (simp; omega)) _ | refine Below.setCell ?_ (by first | omega | (simp; done) | (simp; omega)) _))).mono ?_; rintro e w2 ⟨r, rfl, hB, b2⟩
  have HB := Lib.hid hB; clear hB
  go_wp2_with fail
  go_ret
  exact ⟨r, rfl, HB.out, (Below.trans ((by repeat' (first | exact Below.refl _ _ | assumption | refine Below.drew ?_ | refine Below.alloc ?_ (by first | omega | (simp; done) | (simp; omega)) _ | refine Below.setCell ?_ (by first | omega | (simp; done) | (simp; omega)) _)) : Below w.heap.size w _) (b2.mono (by simp)))⟩
/-- the same, the words' lengths behind letters -/
theorem cost_n (v : Value) (m : MachL) (x y : List Int) (A1 A2 : Option Addr) (nx ny c1 c2 : Nat) (w : World) (ex : x.length = nx) (ey : y.length = ny) (hm : MachAt w v m) (hv : Valid m)
    (hx : Rd w A1 nx 1 (icells x)) (hy : Rd w A2 ny 1 (icells y)) (hlx : nx ≤ 12) (hly : ny ≤ 12) (hbx : ∀ a ∈ x, 1 ≤ a ∧ a ≤ 1000) (hby : ∀ a ∈ y, 1 ≤ a ∧ a ≤ 1000) (hc : CostOk m nx ny) :
    Calls Try.prog 15 #[v, .slice A1 nx c1, .slice A2 ny c2] w fun e w' => ∃ r, e = .returned (.int .i64 r) ∧ Best (Tot m x y false) r ∧ Below w.heap.size w w' := by
  subst ex; subst ey
  exact cost_any v m x y A1 A2 c1 c2 w hm hv hx hy hlx hly hbx hby hc
end Go.Proofs.Ytikkmoleneioeaa
