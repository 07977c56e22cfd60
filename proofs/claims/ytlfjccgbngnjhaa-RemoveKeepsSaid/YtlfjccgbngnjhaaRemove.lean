/- empties.Remove. -/
import Derived.Test.YtlfjccgbngnjhaaRemoveScan
import Derived.Test.YtlfjccgbngnjhaaNear
import Derived.Test.YtlfjccgbngnjhaaMapRange
import Derived.Test.YtlfjccgbngnjhaaArrange
namespace Go.Proofs.Ytlfjccgbngnjhaa
open Go.RowKit
open Go.ChangeMaps (setBlock)

theorem zeroIntR (w : World) : (zeroValue 3).run Try.prog w = .ok (.int .i64 0) w := by kernel_rfl
abbrev key3 (k : K3) : Value := .agg #[.int .i64 k.1, .int .i64 k.2.1, .int .i64 k.2.2]
theorem eq3 (a b c a' b' c' : Int) (w : World) : (Op.equalIn 10000 74 (.agg #[.int .i64 a, .int .i64 b, .int .i64 c]) (.agg #[.int .i64 a', .int .i64 b', .int .i64 c'])).run Try.prog w = .ok (a == a' && (b == b' && c == c')) w := by
  have u3 := Try.underlying3
  have a3 := Try.isAgg3
  have z3 := Try.sizeOf3
  rw [show (10000 : Nat) = 9999 + 1 from rfl, Op.equalIn]
  simp only [Sem.run_bind, run_underlying Try.underlying74, Result.andThen_ok]
  simp only [Std.Legacy.Range.forIn_eq_forIn_range', Std.Legacy.Range.size, Nat.sub_zero, Nat.add_sub_cancel, Nat.div_one, List.range'_succ, List.range'_zero, List.forIn_cons, List.forIn_nil]
  go_simp
  by_cases h1 : a = a' <;> by_cases h2 : b = b' <;> by_cases h3 : c = c' <;> simp [h1, h2, h3]
theorem keyOk3 : KeyOk Try.prog 74 key3 where
  chk e k w := by cases e <;> kernel_rfl
  eq a b w := by
    obtain ⟨a1, a2, a3⟩ := a; obtain ⟨b1, b2, b3⟩ := b
    show (Op.equalIn 10000 _ _ _).run _ w = _
    rw [eq3]
    by_cases h1 : a1 = b1 <;> by_cases h2 : a2 = b2 <;> by_cases h3 : a3 = b3 <;> simp [h1, h2, h3] <;> omega
  stays a := by obtain ⟨a1, a2, a3⟩ := a; simp [Instr.sameBits]
  now a b := ⟨_, Try.underlying74, .inl rfl⟩

/-- Remove's memory while a state is looked at (wr: the world in which its round began) -/
structure RM (wr W : World) (mb bs bn : Nat) (l : List Int) (f : Int) (es : List (K3 × Int)) : Prop where
  map : MapB W mb key3 intV es
  box : Blk W bs #[.int .i64 f, .slice none 0 0] 39
  nr : Blk W bn (numA l) 3
  bel : Below wr.heap.size wr W
  o1 : wr.heap.size ≤ mb
  o2 : mb < bs
  o3 : bs < bn
section
variable {wr W W' : World} {mb bs bn : Nat} {l : List Int} {f : Int} {es : List (K3 × Int)}
theorem RM.keep (h : RM wr W mb bs bn l f es) (hb : Below W.heap.size W W') : RM wr W' mb bs bn l f es :=
  ⟨h.map.below hb (Nat.le_refl _), h.box.step hb, h.nr.step hb, h.bel.trans (hb.mono h.bel.size), h.o1, h.o2, h.o3⟩
theorem RM.setF (h : RM wr W mb bs bn l f es) (f' : Int) : RM wr (W.setCell ⟨bs, 0, none⟩ (.int .i64 f')) mb bs bn l f' es := by
  have h1 := h.o1; have h2 := h.o2; have h3 := h.o3
  exact ⟨h.map.setCell (by simp; omega) _, (h.box.put 0 _).eq (by simp), h.nr.far (by simp; omega) _, h.bel.setCell (by simp; omega) _, h1, h2, h3⟩
theorem RM.put (h : RM wr W mb bs bn l f es) (k : K3) (v : Int) : RM wr (setBlock W mb (mapObj key3 intV (mput es k v))) mb bs bn l f (mput es k v) := by
  have h1 := h.o1; have h2 := h.o2; have h3 := h.o3
  have hg : W.grownBy (setBlock W mb (mapObj key3 intV (mput es k v))) (some mb) := setBlock_grown _
  exact ⟨h.map.put k v, h.box.grown hg (by simp; omega), h.nr.grown hg (by simp; omega), h.bel.grown hg h.bel.size (fun j hj => by simp at hj; omega), h1, h2, h3⟩
end
/-- a row of arcs never lies in a block that is no row of cells -/
theorem own_ne_cells {w : World} {base : Nat} {e : TypeId} {size n : Nat} {v : Value} {xs : List Value} (h : w.ownsRow base e size v n xs) {r : Nat} (hr : ∀ cur e' fz, w.heap[r]? ≠ some (.cells cur e' fz)) : v.ownBlock ≠ some r := by
  rcases h.2 with ⟨rfl, _⟩ | ⟨g, cap, cur, rfl, _, hg, _⟩
  · simp [Value.ownBlock]
  · intro e2
    simp [Value.ownBlock] at e2
    subst e2
    exact hr _ _ _ hg
theorem MapR.nocells {κ ν : Type} {w : World} {b r : Nat} {c : κ → Value} {d : ν → Value} {l : List (κ × ν)} {idx : List Nat} (h : MapR w b r c d l idx) : ∀ cur e' fz, w.heap[r]? ≠ some (.cells cur e' fz) := by
  obtain ⟨c0, h1, -⟩ := h.it
  intro cur e' fz h2; rw [h1] at h2; cases h2
theorem AB.iter {w2 wi w' : World} {b r : Nat} {fin : Int} {av : Value} {l : List ArcL} (h : AB w2 wi b fin av l) (hg : wi.grownBy w' (some r)) (hr : w2.heap.size ≤ r) (hc : ∀ cur e' fz, wi.heap[r]? ≠ some (.cells cur e' fz)) : AB w2 w' b fin av l := by
  have hgb := h.gB; have hl := h.lt
  have hb : w'.heap[b]? = wi.heap[b]? := hg.block _ hl (by simp; omega)
  have hne : av.ownBlock ≠ some r := own_ne_cells h.own hc
  refine ⟨h.own.grown hg (.inr hne), ?_, ?_, ?_, ?_, ?_, hgb⟩
  · rw [World.cell?_of_block hb]; exact h.s0
  · rw [World.cell?_of_block hb]; exact h.s1
  · rw [World.frozen?_of_block hb]; exact h.f0
  · rw [World.frozen?_of_block hb]; exact h.f1
  · exact ⟨hg.os.trans h.grown.os, hg.tape.trans h.grown.tape, hg.output.trans h.grown.output, Nat.le_trans h.grown.size hg.size, fun k hk hne2 => (hg.block k (Nat.lt_of_lt_of_le hk h.grown.size) (by simp; omega)).trans (h.grown.block k hk hne2)⟩

/-- weights of a state are small -/
def RBnd (B : Int) (s : StateL) : Prop := (s.final = INF ∨ (0 ≤ s.final ∧ s.final ≤ B)) ∧ ∀ a ∈ s.arcs, 0 ≤ a.wt ∧ a.wt ≤ B
/-- what the states have that are done -/
def RDone (m : MachL) (B : Int) (ss : List StateL) : Prop := ∀ i (h : i < ss.length), FinR m i ss[i].final ∧ ArcU m i ss[i].arcs ∧ RBnd B ss[i]
theorem RDone.app {m : MachL} {B : Int} {ss : List StateL} (h : RDone m B ss) {s : StateL} (h1 : FinR m ss.length s.final) (h2 : ArcU m ss.length s.arcs) (h3 : RBnd B s) : RDone m B (ss ++ [s]) := by
  intro i hi
  by_cases e : i < ss.length
  · rw [List.getElem_append_left e]; exact h i e
  · have : i = ss.length := by simp at hi; omega
    subst this; simp; exact ⟨h1, h2, h3⟩
/-- is a state's final cost taken? -/
def takeF (f c fp : Int) : Bool := !(fp == 1000000001) && (f == 1000000001 || decide (c + fp < f))
theorem finQ_bd {m : MachL} {WW : Int} (hv : Valid m) (h : ∀ s ∈ m.states, s.final ≠ INF → s.final ≤ WW) (p : Nat) : finQ m p = INF ∨ (0 ≤ finQ m p ∧ finQ m p ≤ WW) := by
  by_cases e : finQ m p = INF
  · exact .inl e
  · obtain ⟨s, hs, he⟩ := finQ_ne e
    have hm := List.mem_of_getElem? hs
    have h1 := (hv.st s hm).1
    have h2 := h s hm (by rw [he]; exact e)
    unfold ValidFinal at h1
    right
    have e1 : INF = 1000000001 := rfl
    rw [he] at h1 h2
    omega
/-- small enough that nothing is too large -/
structure RemOk (m : MachL) (WW : Int) : Prop where
  n6 : m.states.length ≤ 6
  w0 : 0 ≤ WW
  w1 : WW ≤ 1000000
  wt : ∀ s ∈ m.states, ∀ a ∈ s.arcs, a.wt ≤ WW
  fin : ∀ s ∈ m.states, s.final ≠ INF → s.final ≤ WW
  lab : ∀ s ∈ m.states, ∀ a ∈ s.arcs, a.inn ≤ 2 ∧ a.out ≤ 2

theorem ArcU.lab {m : MachL} {q : Nat} {l : List ArcL} (h : ArcU m q l) (hv : Valid m) (hl : ∀ s ∈ m.states, ∀ a ∈ s.arcs, a.inn ≤ 2 ∧ a.out ≤ 2) : ∀ a ∈ l, (0 ≤ a.inn ∧ a.inn ≤ 2) ∧ (0 ≤ a.out ∧ a.out ≤ 2) ∧ 0 ≤ a.to ∧ a.to < m.states.length := fun a ha => by
  obtain ⟨p, c, b, -, h2, -, h4, -⟩ := h.src a ha
  obtain ⟨s, hs, hb⟩ := arcsQ_in h2
  have k1 := (hv.st s hs).2 b hb
  have k2 := hl s hs b hb
  have := k1.i0; have := k1.o0; have := k1.t0; have := k1.t1
  obtain ⟨e1, e2, e3⟩ := alike3_iff.1 h4
  omega
theorem ArcU.few {m : MachL} {q : Nat} {l : List ArcL} (h : ArcU m q l) (hv : Valid m) (hl : ∀ s ∈ m.states, ∀ a ∈ s.arcs, a.inn ≤ 2 ∧ a.out ≤ 2) : l.length ≤ 9 * m.states.length := few_arcs h.nd (h.lab hv hl)

theorem sum_few (K : Nat) : ∀ ss : List StateL, (∀ s ∈ ss, s.arcs.length ≤ K) → arcsOf ss ≤ ss.length * K
  | [], _ => by simp [arcsOf]
  | s :: ss, h => by
    have h1 := h s (by simp)
    have h2 := sum_few K ss fun x hx => h x (by simp [hx])
    unfold arcsOf at *
    rw [List.map_cons, List.sum_cons, List.length_cons, Nat.add_mul, Nat.one_mul]; omega
theorem RDone.valid {m : MachL} {B WW : Int} {ss : List StateL} (h : RDone m B ss) (hl : ss.length = m.states.length) (hv : Valid m) (hok : RemOk m WW) (hB : B ≤ 7000000) : Valid ⟨m.start, ss⟩ := by
  have h6 := hok.n6
  have key : ∀ s ∈ ss, ∃ i, ArcU m i s.arcs ∧ RBnd B s := fun s hs => by
    obtain ⟨i, hi, rfl⟩ := List.getElem_of_mem hs
    exact ⟨i, (h i hi).2.1, (h i hi).2.2⟩
  refine ⟨by show ss.length ≤ 60; omega, ?_, hv.s0, by show m.start < (ss.length : Int); rw [hl]; exact hv.s1, fun s hs => ?_⟩
  · have := sum_few 54 ss fun s hs => by
      obtain ⟨i, h1, -⟩ := key s hs
      have := h1.few hv hok.lab; omega
    have h3 : ss.length * 54 ≤ 6 * 54 := Nat.mul_le_mul_right _ (by omega)
    show arcsOf ss ≤ 400; omega
  · obtain ⟨i, h1, h2, h3⟩ := key s hs
    have e1 : INF = 1000000001 := rfl
    refine ⟨by unfold ValidFinal; omega, fun a ha => ?_⟩
    obtain ⟨⟨k1, k2⟩, ⟨k3, k4⟩, k5, k6⟩ := h1.lab hv hok.lab a ha
    obtain ⟨k7, k8⟩ := h3 a ha
    exact ⟨k1, by omega, k3, by omega, k7, by omega, k5, by show a.to < (ss.length : Int); rw [hl]; exact k6⟩
/-- what Remove answers -/
structure RemX (m x : MachL) (B : Int) : Prop where
  rem : RemR m x
  valid : Valid x
  bnd : ∀ s ∈ x.states, RBnd B s
  lab : ∀ s ∈ x.states, ∀ a ∈ s.arcs, a.inn ≤ 2 ∧ a.out ≤ 2
  few : ∀ s ∈ x.states, s.arcs.length ≤ 54
theorem RDone.remX {m : MachL} {B WW : Int} {ss : List StateL} (h : RDone m B ss) (hl : ss.length = m.states.length) (hv : Valid m) (hok : RemOk m WW) (hB : B ≤ 7000000) : RemX m (arrM (sortK readKy) ⟨m.start, ss⟩) B := by
  have h6 := hok.n6
  have key : ∀ s ∈ (arrM (sortK readKy) ⟨m.start, ss⟩).states, ∃ i, ∃ s0, ArcU m i s0.arcs ∧ RBnd B s0 ∧ s = ⟨s0.final, sortK readKy s0.arcs⟩ := fun s hs => by
    obtain ⟨s0, h0, rfl⟩ := List.mem_map.1 hs
    obtain ⟨i, hi, rfl⟩ := List.getElem_of_mem h0
    exact ⟨i, ss[i], (h i hi).2.1, (h i hi).2.2, rfl⟩
  refine ⟨⟨rfl, by rw [arrM_len]; exact hl, fun q hq => ?_, fun q hq => ?_⟩, arrM_valid (drops_sort readKy) (h.valid hl hv hok hB), fun s hs => ?_, fun s hs a ha => ?_, fun s hs => ?_⟩
  · rw [finQ_arr]
    have e : finQ ⟨m.start, ss⟩ q = ss[q].final := by unfold finQ; rw [List.getElem?_eq_getElem (by show q < ss.length; omega)]; rfl
    rw [e]; exact (h q (by omega)).1
  · rw [arcsQ_arr (sortK_nil readKy)]
    have e : arcsQ ⟨m.start, ss⟩ q = ss[q].arcs := by unfold arcsQ; rw [List.getElem?_eq_getElem (by show q < ss.length; omega)]; rfl
    rw [e]; exact (h q (by omega)).2.1.sort
  · obtain ⟨i, s0, -, h2, rfl⟩ := key s hs
    exact ⟨h2.1, fun a ha => h2.2 a ((sortK_mem _ _ _).1 ha)⟩
  · obtain ⟨i, s0, h1, -, rfl⟩ := key s hs
    obtain ⟨⟨k1, k2⟩, ⟨k3, k4⟩, -⟩ := h1.lab hv hok.lab a ((sortK_mem _ _ _).1 ha)
    exact ⟨k2, k4⟩
  · obtain ⟨i, s0, h1, -, rfl⟩ := key s hs
    have := h1.few hv hok.lab
    rw [sortK_len]; omega

set_option maxRecDepth 100000 in
set_option maxHeartbeats 16000000 in
theorem Remove_any (v : Value) (m : MachL) (WW : Int) (w : World) (hm : MachAt w v m) (hv : Valid m) (hok : RemOk m WW) :
    Calls Try.prog 18 #[v] w fun e w' => ∃ mv x, e = .returned (.tuple #[mv, .int .i64 0]) ∧ OwnMach w' w.heap.size mv x ∧ RemX m x (m.states.length * WW + WW) ∧ Below w.heap.size w w' := by
  have CH := Lib.hid (fun W hb => Check_ok v m W (hm.below hb) hv)
  have HNR := Lib.hid (fun W q hb hq => near_any v m q WW W (hm.below hb) hv hq hok.w0 hok.wt (by
    have h1 := hok.n6; have h2 := hok.w1
    have : (m.states.length : Int) * WW ≤ 6 * 1000000 := Int.mul_le_mul (by omega) h2 hok.w0 (by omega)
    omega))
  have HOK := Lib.hid hok; have HV := Lib.hid hv
  have hmm := @run_makeMap Try.prog
  obtain ⟨A, c, rfl, hS⟩ := hm
  have hsz := hv.size
  have rd := hS.rdy
  have HS := Lib.hid hS
  clear hS hv hok
  generalize hst : m.start = st at *
  have HST := Lib.hid hst
  clear hst
  go_enter Try.func18, Try.ntmps18
  go_wp2_with fail
  refine (CH.out _ (by repeat' (first | exact Below.refl _ _ | assumption | refine Below.drew ?_ | refine Below.alloc ?_ (by first | omega | (simp; done) | (simp; omega)) _ | refine Below.setCell ?_ (by first | omega | (simp; done) | (simp; omega)) _))).mono ?_; rintro e w1 ⟨rfl, bel⟩; obtain ⟨c1, f1⟩ := bcell bel; have z1 := bel.size; simp at z1; (try have y0 : w.heap.size < w1.heap.size := by omega); (try have y1 : w.heap.size + 1 < w1.heap.size := by omega); (try have y2 : w.heap.size + 1 + 1 < w1.heap.size := by omega); (try have y3 : w.heap.size + 1 + 1 + 1 < w1.heap.size := by omega); (try have y4 : w.heap.size + 1 + 1 + 1 + 1 < w1.heap.size := by omega); (try have y5 : w.heap.size + 1 + 1 + 1 + 1 + 1 < w1.heap.size := by omega); (try have y6 : w.heap.size + 1 + 1 + 1 + 1 + 1 + 1 < w1.heap.size := by omega)
  go_upto_region 7 with fail
  have r0 : (w1.alloc (.cells #[.int .i64 st, .slice none 0 0] 27)).cell? ⟨w.heap.size + 1, 0, none⟩ = some (.int .i64 0) := by simp [go_sem, *]
  have r1 : (w1.alloc (.cells #[.int .i64 st, .slice none 0 0] 27)).cell? ⟨w.heap.size + 1, 1, none⟩ = some (.slice none 0 0) := by simp [go_sem, *]
  have r2 : (w1.alloc (.cells #[.int .i64 st, .slice none 0 0] 27)).frozen? ⟨w.heap.size + 1, 0, none⟩ = false := by simp [go_sem, *]
  have r3 : (w1.alloc (.cells #[.int .i64 st, .slice none 0 0] 27)).frozen? ⟨w.heap.size + 1, 1, none⟩ = false := by simp [go_sem, *]
  have rm0 : (w1.alloc (.cells #[.int .i64 st, .slice none 0 0] 27)).cell? ⟨w.heap.size, 0, none⟩ = some (.int .i64 st) := by simp [go_sem, *]
  have rm1 : (w1.alloc (.cells #[.int .i64 st, .slice none 0 0] 27)).cell? ⟨w.heap.size, 1, none⟩ = some (.slice A m.states.length c) := by simp [go_sem, *]
  have M0 : MB (w1.alloc (.cells #[.int .i64 st, .slice none 0 0] 27)) (w1.alloc (.cells #[.int .i64 st, .slice none 0 0] 27)) w1.heap.size st (.slice none 0 0) [] [] := MB.start (by simp [go_sem]) (by simp [go_sem]) (by simp [go_sem]) (by simp [go_sem])
  have bl : Below w.heap.size w (w1.alloc (.cells #[.int .i64 st, .slice none 0 0] 27)) := (by repeat' (first | exact Below.refl _ _ | assumption | refine Below.step ?_ bel | refine Below.drew ?_ | refine Below.alloc ?_ (by first | omega | (simp; done) | (simp; omega)) _ | refine Below.setCell ?_ (by first | omega | (simp; done) | (simp; omega)) _))
  have hgr : w.heap.size + 1 < w1.heap.size := y1
  clear c1 f1 y0 y1 z1 bel CH
  generalize w1.alloc (.cells #[.int .i64 st, .slice none 0 0] 27) = wl at *
  generalize w1.heap.size = g at *
  have HR0 := Lib.hid (And.intro r0 (And.intro r1 (And.intro r2 r3)))
  have HRM := Lib.hid (And.intro rm0 rm1)
  have HM0 := Lib.hid M0; have HBL := Lib.hid bl
  clear r0 r1 r2 r3 rm0 rm1 M0 bl
  go_loopw [6, 32] (fun ov iv wr => ∃ (q : Nat) (sv : Value) (vs : List Value) (ss : List StateL), q ≤ m.states.length ∧ iv = .int .i64 q ∧ ov = .bool false ∧ MB wl wr g st sv vs ss ∧ ss.length = q ∧ RDone m (m.states.length * WW + WW) ss) (fun _ iv _ => m.states.length - (intOf iv).toNat)
  case atStart => exact ⟨0, _, _, [], by omega, rfl, rfl, HM0.out, rfl, fun i hi => absurd hi (by simp)⟩
  case round =>
    obtain ⟨q, sv, vs, ss, hq, rfl, rfl, hM, hsl, hD⟩ := hrel
    obtain ⟨wo, rfl⟩ : ∃ wo : World, wo = wr := ⟨_, rfl⟩
    have HM := Lib.hid hM; have HSL := Lib.hid hsl; have HD := Lib.hid hD
    have HBW := Lib.hid (hM.below HBL.out (by omega))
    have i0 : (0 : Int) ≤ (q : Int) := by omega
    clear hM hsl hD
    by_cases hlt : q < m.states.length
    · have i1 : (q : Int) < (m.states.length : Int) := by omega
      have k0 := grown_cell HM.out.grown (by omega) HRM.out.1; have k1 := grown_cell HM.out.grown (by omega) HRM.out.2
      have lw : w.heap.size < wo.heap.size := World.block_lt_of_cell? _ _ k0
      go_wp2_with fail
      have mp : MapB ((wo.alloc (.map #[] 0)).alloc (.cells #[.int .i64 1000000001, .slice none 0 0] 39)) wo.heap.size key3 intV [] := (MapB.made wo _ rfl _ _).alloc _
      have bx : Blk ((wo.alloc (.map #[] 0)).alloc (.cells #[.int .i64 1000000001, .slice none 0 0] 39)) (wo.heap.size + 1) #[.int .i64 1000000001, .slice none 0 0] 39 := Blk.new' (by simp)
      have bb : Below wo.heap.size wo ((wo.alloc (.map #[] 0)).alloc (.cells #[.int .i64 1000000001, .slice none 0 0] 39)) := (by repeat' (first | exact Below.refl _ _ | assumption | refine Below.drew ?_ | refine Below.alloc ?_ (by first | omega | (simp; done) | (simp; omega)) _ | refine Below.setCell ?_ (by first | omega | (simp; done) | (simp; omega)) _))
      have hzb : ((wo.alloc (.map #[] 0)).alloc (.cells #[.int .i64 1000000001, .slice none 0 0] 39)).heap.size = wo.heap.size + 2 := by simp
      generalize (wo.alloc (.map #[] 0)).alloc (.cells #[.int .i64 1000000001, .slice none 0 0] 39) = wb at *
      refine (HNR.out wb q (HBW.out.trans (bb.mono HBW.out.size)) hlt).mono ?_; rintro e w2 ⟨l, rfl, nb, hnear, hbd, b2⟩
      have HRM1 : Hid (RM wo w2 wo.heap.size (wo.heap.size + 1) (wb.heap.size + 1) l 1000000001 []) := Lib.hid ⟨mp.below b2 (Nat.le_refl _), bx.step b2, nb, Below.step bb b2, Nat.le_refl _, by omega, by omega⟩
      have HN := Lib.hid hnear; have HBN := Lib.hid hbd
      clear mp bx bb hzb nb hnear hbd b2
      go_upto_region 12 with fail
      generalize wb.heap.size + 1 = bn at *
      generalize wo.heap.size + 1 = bs at *
      go_loopw [41] (fun iv wr => ∃ (p : Nat) (f : Int) (es : List (K3 × Int)), p ≤ m.states.length ∧ iv = .int .i64 p ∧ RM wo wr wo.heap.size bs bn l f es ∧ FInv m l p f ∧ SInv m l p 0 es) (fun iv _ => m.states.length - (intOf iv).toNat)
      case atStart => exact ⟨0, _, [], by omega, rfl, HRM1.out, FInv.start _ _, SInv.start _ _⟩
      case round =>
        clear HRM1
        obtain ⟨p, f, es, hp, rfl, hR, hF, hI⟩ := hrel
        obtain ⟨wp, rfl⟩ : ∃ wo : World, wo = wr := ⟨_, rfl⟩
        have HR := Lib.hid hR; have HF := Lib.hid hF; have HI := Lib.hid hI
        clear hR hF hI
        have p0 : (0 : Int) ≤ (p : Int) := by omega
        by_cases hpl : p < m.states.length
        · have p1 : (p : Int) < (m.states.length : Int) := by omega
          have kn := HR.out.nr.cell p
          rw [numA_get _ _ (by rw [HN.out.len]; exact hpl)] at kn
          have ln := HR.out.nr.lt
          by_cases hc : cg l p < 0
          · have HF2 := Lib.hid (HF.out.skip (.inl hc)); have HI2 := Lib.hid (HI.out.skip hc)
            generalize cg l p = x at *
            go_wp2_with fail
            go_roundw
            case rel => exact ⟨p + 1, f, es, by omega, by go_num, HR.out, HF2.out, HI2.out⟩
            case measure => simp [intOf]; omega
          · have hc0 : 0 ≤ cg l p := by omega
            have hcb : cg l p ≤ 6000000 := by
              have h1 := HBN.out p; have h2 := HOK.out.n6; have h3 := HOK.out.w1; have h4 := HOK.out.w0
              have : (m.states.length : Int) * WW ≤ 6 * 1000000 := Int.mul_le_mul (by omega) h3 h4 (by omega)
              omega
            have hfq := finQ_bd HV.out HOK.out.fin p
            have hww := HOK.out.w1
            have bw2 := HBW.out.trans (HR.out.bel.mono HBW.out.size)
            have dF := finQ_cell (HS.out.below bw2 (Nat.le_refl _)) hpl
            have m0 := cellB HR.out.bel k0; have m1 := cellB HR.out.bel k1
            have lm := World.block_lt_of_cell? _ _ m0
            have kb := HR.out.box.cell; have lb := HR.out.box.lt; have fb := HR.out.box.froz
            have HFI : Hid (f = 1000000001 ∨ (0 ≤ f ∧ f ≤ 7000000)) := Lib.hid (by
              rcases HF.out.bound (n := m.states.length) (WW := WW) (F := WW) HBN.out (fun s hs => by rcases finQ_bd HV.out HOK.out.fin s with h | h; exact absurd h hs; exact h) with h | ⟨h, h'⟩
              · exact .inl h
              · right
                have h2 := HOK.out.n6; have h3 := HOK.out.w1; have h4 := HOK.out.w0
                have : (m.states.length : Int) * WW ≤ 6 * 1000000 := Int.mul_le_mul (by omega) h3 h4 (by omega)
                omega)
            obtain ⟨x, hx⟩ : ∃ x, cg l p = x := ⟨_, rfl⟩
            obtain ⟨fp, hfp⟩ : ∃ fp, finQ m p = fp := ⟨_, rfl⟩
            have HX := Lib.hid hx; have HFP := Lib.hid hfp
            rw [hx] at kn hc hc0 hcb
            rw [hfp] at hfq dF
            clear hx hfp bw2
            go_upto_region 16 with fail
            have hf0 := HFI.out
            have hfb : 0 ≤ fp ∧ fp ≤ 1000000001 := by have e1 : INF = 1000000001 := rfl; omega
            obtain ⟨fp0, fp1⟩ := hfb
            have hfb : 0 ≤ f ∧ f ≤ 1000000001 := by omega
            obtain ⟨f0, f1⟩ := hfb
            have HFQ := Lib.hid hfq
            clear hf0 hfq dF kn m0 m1 lm k0 k1 lw
            go_cut [68] (fun s68 wx => s68 = .bool (takeF f x fp) ∧ wx = wp)
            case first =>
              have HT : Hid (takeF f x fp = (!(fp == 1000000001) && (f == 1000000001 || decide (x + fp < f)))) := Lib.hid rfl
              generalize takeF f x fp = tb at *
              by_cases z1 : fp = 1000000001
              · have g1 : (fp == 1000000001) = true := by simpa using z1
                have g1' : (fp != 1000000001) = false := by simpa using z1
                clear z1
                go_wp2_with fail
                go_meet
                case rel => exact ⟨by rw [HT.out, g1]; rfl, rfl⟩
              · have g1 : (fp == 1000000001) = false := by simpa using z1
                have g1' : (fp != 1000000001) = true := by simpa using z1
                clear z1
                by_cases z2 : f = 1000000001
                · have g2 : (f == 1000000001) = true := by simpa using z2
                  clear z2
                  go_wp2_with fail
                  go_meet
                  case rel => exact ⟨by rw [HT.out, g1, g2]; rfl, rfl⟩
                · have g2 : (f == 1000000001) = false := by simpa using z2
                  clear z2
                  go_wp2_with fail
                  go_meet
                  case rel => exact ⟨by rw [HT.out, g1, g2]; simp, rfl⟩
            case rest =>
              obtain ⟨rfl, rfl⟩ := hcut
              go_upto_if 68 with fail
              go_cut [] (fun wx => ∃ f', RM wo wx wo.heap.size bs bn l f' es ∧ FInv m l (p + 1) f')
              case first =>
                have HT : Hid (takeF f x fp = (!(fp == 1000000001) && (f == 1000000001 || decide (x + fp < f)))) := Lib.hid rfl
                generalize takeF f x fp = tb at *
                have e1 : INF = 1000000001 := rfl
                cases tb with
                | false =>
                  have HF2 : Hid (FInv m l (p + 1) f) := Lib.hid (by
                    by_cases z1 : fp = 1000000001
                    · exact HF.out.skip (.inr (by rw [HFP.out, z1]))
                    · have h := HT.out
                      have g1 : (fp == 1000000001) = false := by simpa using z1
                      rw [g1] at h
                      simp at h
                      exact HF.out.keep (by rw [e1]; exact h.1) (by rw [HX.out, HFP.out]; exact h.2))
                  clear HT kb lb fb e1
                  go_wp2_with fail
                  go_meet
                  case rel => exact ⟨f, HR.out, HF2.out⟩
                | true =>
                  have hz : fp ≠ 1000000001 ∧ (f = 1000000001 ∨ x + fp < f) := by
                    have h := HT.out
                    simp at h
                    exact h
                  have hfq := HFQ.out
                  have hb2 : x + fp < 1000000001 := by omega
                  have HF2 := Lib.hid (HF.out.set (by rw [HX.out]; exact hc0) (by rw [HFP.out]; exact hz.1) (by rw [HX.out, HFP.out]; exact hb2) (by rw [HX.out, HFP.out]; exact hz.2))
                  rw [HX.out, HFP.out] at HF2
                  have HR2 := Lib.hid (HR.out.setF (x + fp))
                  have g3 : (x + fp == 1000000001) = false := by simp; omega
                  clear HT hz hfq e1
                  go_wp2_with fail
                  go_meet
                  case rel => exact ⟨_, HR2.out, HF2.out⟩
              case rest =>
                obtain ⟨f', hR2, hF2⟩ := hcut
                have HR2 := Lib.hid hR2; have HF2 := Lib.hid hF2
                clear hR2 hF2 kb lb fb HR HF HFI HFQ fp0 fp1 f0 f1 HFP
                have bw3 := HBW.out.trans (HR2.out.bel.mono HBW.out.size)
                have k1 := grown_cell HM.out.grown (by omega) HRM.out.2
                have m1 := cellB HR2.out.bel k1
                have lm := World.block_lt_of_cell? _ _ m1
                obtain ⟨A', c', d1, hA'⟩ := arcQ_cell HS.out hpl
                replace d1 := cell_keep bw3 (Nat.le_refl _) d1
                have HA := Lib.hid hA'
                have rdA := hA'.rdy
                have hal : (arcsQ m p).length ≤ 400 := by
                  have h3 := HV.out.arcs
                  unfold arcsQ
                  cases hs : m.states[p]? with
                  | none => simp
                  | some s => simp only [Option.map_some, Option.getD_some]; have := arcs_le_of m.states s (List.mem_of_getElem? hs); omega
                clear hA'
                go_upto_region 21 with fail
                clear m1 lm d1 k1 bw3
                obtain ⟨N, hN⟩ : ∃ N, (arcsQ m p).length = N := ⟨_, rfl⟩
                have HNN := Lib.hid hN
                rw [hN] at rdA hal
                rw [hN]
                clear hN
                go_loopw [87] (fun iv wr => ∃ (t : Nat) (es : List (K3 × Int)), t ≤ N ∧ iv = .int .i64 t ∧ RM wo wr wo.heap.size bs bn l f' es ∧ SInv m l p t es) (fun iv _ => N - (intOf iv).toNat)
                case atStart => exact ⟨0, es, by omega, rfl, HR2.out, HI.out⟩
                case round =>
                  clear HR2 HI
                  obtain ⟨t, es, ht, rfl, hR, hI⟩ := hrel
                  obtain ⟨wt, rfl⟩ : ∃ wo : World, wo = wr := ⟨_, rfl⟩
                  have HR := Lib.hid hR; have HI := Lib.hid hI
                  clear hR hI
                  have t0 : (0 : Int) ≤ (t : Int) := by omega
                  by_cases htl : t < N
                  · have t1 : (t : Int) < (N : Int) := by omega
                    have hAr := HA.out.below (HBW.out.trans (HR.out.bel.mono HBW.out.size)) (Nat.le_refl _)
                    have htl2 : t < (arcsQ m p).length := by rw [HNN.out]; exact htl
                    have d0 := hAr.c0 t htl2; have d1 := hAr.c1 t htl2; have d2 := hAr.c2 t htl2; have d3 := hAr.c3 t htl2
                    have HKP := Lib.hid (HI.out.keep htl2); have HPT := Lib.hid (HI.out.put htl2)
                    obtain ⟨s', hs', hmem⟩ := arcsQ_in (List.getElem_mem htl2)
                    have hw0 := ((HV.out.st s' hs').2 _ hmem).w0
                    have hw1 := HOK.out.wt s' hs' _ hmem
                    generalize (arcsQ m p)[t] = a at *
                    have lA : blk A' < wt.heap.size := World.block_lt_of_cell? _ _ d0
                    have hc0' : 0 ≤ cg l p := by rw [HX.out]; exact hc0
                    clear hAr hmem htl2 hs'
                    rw [HX.out] at HPT HKP
                    go_upto_region 24 with fail
                    have bx : Below wt.heap.size wt ((wt.alloc (.cells #[.int .i64 a.inn, .int .i64 a.out, .int .i64 a.wt, .int .i64 a.to] 42)).alloc (.cells #[.int .i64 a.inn, .int .i64 a.out, .int .i64 a.to] 74)) := (by repeat' (first | exact Below.refl _ _ | assumption | refine Below.drew ?_ | refine Below.alloc ?_ (by first | omega | (simp; done) | (simp; omega)) _ | refine Below.setCell ?_ (by first | omega | (simp; done) | (simp; omega)) _))
                    have BX : Hid (Blk ((wt.alloc (.cells #[.int .i64 a.inn, .int .i64 a.out, .int .i64 a.wt, .int .i64 a.to] 42)).alloc (.cells #[.int .i64 a.inn, .int .i64 a.out, .int .i64 a.to] 74)) wt.heap.size #[.int .i64 a.inn, .int .i64 a.out, .int .i64 a.wt, .int .i64 a.to] 42) := Lib.hid ((Blk.new _ _ _).alloc _)
                    have BK : Hid (Blk ((wt.alloc (.cells #[.int .i64 a.inn, .int .i64 a.out, .int .i64 a.wt, .int .i64 a.to] 42)).alloc (.cells #[.int .i64 a.inn, .int .i64 a.out, .int .i64 a.to] 74)) (wt.heap.size + 1) #[.int .i64 a.inn, .int .i64 a.out, .int .i64 a.to] 74) := Lib.hid (Blk.new' (by simp))
                    have HR3 := Lib.hid (HR.out.keep bx)
                    generalize (wt.alloc (.cells #[.int .i64 a.inn, .int .i64 a.out, .int .i64 a.wt, .int .i64 a.to] 42)).alloc (.cells #[.int .i64 a.inn, .int .i64 a.out, .int .i64 a.to] 74) = wu at *
                    generalize wt.heap.size + 1 = gk at *
                    generalize wt.heap.size = gx at *
                    clear d0 d1 d2 d3 bx lA
                    cases hs : assoc es (ky a) with
                    | none =>
                      have hlk : (Instr.lookup 72 (.map (some wo.heap.size)) (.agg #[.int .i64 a.inn, .int .i64 a.out, .int .i64 a.to]) true).run Try.prog wu = .ok (.tuple #[.int .i64 0, .bool false]) wu := by
                        have h := run_lookup_x HR3.out.map keyOk3 Try.underlying72 (ky a) true (zeroIntR wu)
                        rw [hs] at h; exact h
                      have kk := BK.out.cell; have lk := BK.out.lt; have ka := BX.out.cell; have la := BX.out.lt
                      go_wp2_with fail
                      refine (empty_any a _).mono ?_; rintro e w5 ⟨rfl, b5⟩
                      have HR5 := Lib.hid (HR3.out.keep b5)
                      have BX5 := Lib.hid (BX.out.step b5); have BK5 := Lib.hid (BK.out.step b5)
                      clear kk lk ka la BX BK HR3 b5 hlk
                      have kk := BK5.out.cell; have lk := BK5.out.lt; have ka := BX5.out.cell; have la := BX5.out.lt
                      cases he : emptyA a with
                      | true =>
                        have HI2 := Lib.hid (HKP.out (fun h => by rw [he] at h; cases h))
                        clear HKP HPT he hs
                        go_wp2_with fail
                        go_roundw
                        case rel => exact ⟨t + 1, es, by omega, by go_num, HR5.out, HI2.out⟩
                        case measure => simp [intOf]; omega
                      | false =>
                        have HI2 := Lib.hid (HPT.out hc0 he (fun u h => by rw [hs] at h; cases h))
                        have HR6 := Lib.hid (HR5.out.put (ky a) (x + a.wt))
                        have hmu : (Instr.mapUpdate 72 (.map (some wo.heap.size)) (.agg #[.int .i64 a.inn, .int .i64 a.out, .int .i64 a.to]) (.int .i64 (x + a.wt))).run Try.prog w5 = .ok () (setBlock w5 wo.heap.size (mapObj key3 intV (mput es (ky a) (x + a.wt)))) := run_mapUpdate_x HR5.out.map keyOk3 Try.underlying72 (ky a) (x + a.wt)
                        clear HKP HPT he hs
                        go_wp2_with fail
                        go_roundw
                        case rel => exact ⟨t + 1, _, by omega, by go_num, HR6.out, HI2.out⟩
                        case measure => simp [intOf]; omega
                    | some y =>
                      have hlk : (Instr.lookup 72 (.map (some wo.heap.size)) (.agg #[.int .i64 a.inn, .int .i64 a.out, .int .i64 a.to]) true).run Try.prog wu = .ok (.tuple #[.int .i64 y, .bool true]) wu := by
                        have h := run_lookup_x HR3.out.map keyOk3 Try.underlying72 (ky a) true (zeroIntR wu)
                        rw [hs] at h; exact h
                      have kk := BK.out.cell; have lk := BK.out.lt; have ka := BX.out.cell; have la := BX.out.lt
                      go_wp2_with fail
                      refine (empty_any a _).mono ?_; rintro e w5 ⟨rfl, b5⟩
                      have HR5 := Lib.hid (HR3.out.keep b5)
                      have BX5 := Lib.hid (BX.out.step b5); have BK5 := Lib.hid (BK.out.step b5)
                      clear kk lk ka la BX BK HR3 b5 hlk
                      have kk := BK5.out.cell; have lk := BK5.out.lt; have ka := BX5.out.cell; have la := BX5.out.lt
                      cases he : emptyA a with
                      | true =>
                        have HI2 := Lib.hid (HKP.out (fun h => by rw [he] at h; cases h))
                        clear HKP HPT he hs
                        go_wp2_with fail
                        go_roundw
                        case rel => exact ⟨t + 1, es, by omega, by go_num, HR5.out, HI2.out⟩
                        case measure => simp [intOf]; omega
                      | false =>
                        by_cases hl : x + a.wt < y
                        · have h9 : ∀ u, assoc es (ky a) = some u → x + a.wt ≤ u := fun u h => by rw [hs] at h; injection h with h; omega
                          have HI2 := Lib.hid (HPT.out hc0 he h9)
                          have HR6 := Lib.hid (HR5.out.put (ky a) (x + a.wt))
                          have hmu : (Instr.mapUpdate 72 (.map (some wo.heap.size)) (.agg #[.int .i64 a.inn, .int .i64 a.out, .int .i64 a.to]) (.int .i64 (x + a.wt))).run Try.prog w5 = .ok () (setBlock w5 wo.heap.size (mapObj key3 intV (mput es (ky a) (x + a.wt)))) := run_mapUpdate_x HR5.out.map keyOk3 Try.underlying72 (ky a) (x + a.wt)
                          clear HKP HPT he hs h9
                          go_wp2_with fail
                          go_roundw
                          case rel => exact ⟨t + 1, _, by omega, by go_num, HR6.out, HI2.out⟩
                          case measure => simp [intOf]; omega
                        · have h9 : ∃ u, assoc es (ky a) = some u ∧ u ≤ x + a.wt := ⟨y, hs, by omega⟩
                          have HI2 := Lib.hid (HKP.out (fun _ => h9))
                          clear HKP HPT he hs h9
                          go_wp2_with fail
                          go_roundw
                          case rel => exact ⟨t + 1, es, by omega, by go_num, HR5.out, HI2.out⟩
                          case measure => simp [intOf]; omega
                  · have HI2 := Lib.hid (HI.out.next (by rw [HNN.out]; omega))
                    go_wp2_with fail
                    go_roundw
                    case rel => exact ⟨p + 1, f', es, by omega, by go_num, HR.out, HF2.out, HI2.out⟩
                    case measure => simp [intOf]; omega
        · obtain rfl : p = m.states.length := by omega
          have HFR := Lib.hid (HF.out.done HN.out (Nat.le_refl _))
          have hnw : (m.states.length : Int) * WW ≤ 6 * 1000000 := by
            have h2 := HOK.out.n6; have h3 := HOK.out.w1; have h4 := HOK.out.w0
            exact Int.mul_le_mul (by omega) h3 h4 (by omega)
          have hww := HOK.out.w1
          have hfb : 0 ≤ f ∧ f ≤ 1000000001 := by
            rcases HF.out.bound (n := m.states.length) (WW := WW) (F := WW) HBN.out (fun s hs => by rcases finQ_bd HV.out HOK.out.fin s with h | h; exact absurd h hs; exact h) with h | ⟨h, h'⟩
            · have e1 : INF = 1000000001 := rfl; omega
            · omega
          have HFB : Hid (f = INF ∨ (0 ≤ f ∧ f ≤ m.states.length * WW + WW)) := Lib.hid (HF.out.bound (n := m.states.length) (WW := WW) (F := WW) HBN.out (fun s hs => by rcases finQ_bd HV.out HOK.out.fin s with h | h; exact absurd h hs; exact h))
          have HEB : Hid (∀ x ∈ es, 0 ≤ x.2 ∧ x.2 ≤ m.states.length * WW + WW) := Lib.hid (fun x hx => HI.out.bound (n := m.states.length) (WW := WW) HBN.out (fun p a ha => by
              obtain ⟨s', hs', hmem⟩ := arcsQ_in ha
              exact ⟨((HV.out.st s' hs').2 _ hmem).w0, HOK.out.wt s' hs' _ hmem⟩) ((assoc_in HR.out.map.nd).1 hx))
          have HES : Hid (∀ x ∈ es, 0 ≤ x.2 ∧ x.2 ≤ 7000000) := Lib.hid (fun x hx => by
            have h := HI.out.bound (n := m.states.length) (WW := WW) HBN.out (fun p a ha => by
              obtain ⟨s', hs', hmem⟩ := arcsQ_in ha
              exact ⟨((HV.out.st s' hs').2 _ hmem).w0, HOK.out.wt s' hs' _ hmem⟩) ((assoc_in HR.out.map.nd).1 hx)
            omega)
          have HAU := Lib.hid (fun (L : List (K3 × Int)) (hp : L.Perm es) => HI.out.done HN.out (Nat.le_refl _) HR.out.map.nd hp)
          have HBP := Lib.hid (HBW.out.trans (HR.out.bel.mono HBW.out.size))
          have HMP := Lib.hid (HM.out.keep HR.out.bel)
          have hel : es.length ≤ 54 := by
            have h1 := (HAU.out es (List.Perm.refl _)).few HV.out HOK.out.lab
            have h2 := HOK.out.n6
            rw [List.length_map] at h1; omega
          have kb := HR.out.box.cell; have lb := HR.out.box.lt
          have HA0 : Hid (AB wp wp bs f (.slice none 0 0) []) := Lib.hid (AB.start (by rw [kb]; rfl) (by rw [kb]; rfl) (HR.out.box.froz 0) (HR.out.box.froz 1))
          obtain ⟨f0, f1⟩ := hfb
          have ho2 := HR.out.o2
          have g9 : decide ((1000000001 : Int) < f) = false := by simp; omega
          clear HF HN HBN HI hnw hww k0 k1 lw hp hpl p0
          go_wp2_with (at_range; refine wpList_range_x rfl rfl Try.underlying72 rfl HR.out.map ?_; intro w6 hR6 b6 z6)
          go_frame
          have HA6 := Lib.hid (HA0.out.keep b6)
          have HR6 := Lib.hid hR6
          obtain ⟨r, hr⟩ : ∃ r, wp.heap.size = r := ⟨_, rfl⟩
          have HRS := Lib.hid hr
          rw [hr] at HR6
          rw [hr]
          clear HA0 hR6 b6 z6 kb lb hr
          go_loopw [6] (fun ov wr => ∃ (idx : List Nat) (av : Value), ov = .bool false ∧ MapR wr wo.heap.size r key3 intV es idx ∧ AB wp wr bs f av ((pickL es idx).map arcOf)) (fun _ wr => es.length - itLen wr r)
          case atStart => exact ⟨[], _, rfl, HR6.out, HA6.out⟩
          case round =>
            clear HR6 HA6
            obtain ⟨idx, av, rfl, hR, hA⟩ := hrel
            obtain ⟨wx, rfl⟩ : ∃ wo : World, wo = wr := ⟨_, rfl⟩
            have HRX := Lib.hid hR; have HAX := Lib.hid hA
            clear hR hA
            go_wp2_with (at_next; refine wpList_next_x rfl rfl rfl HRX.out ?_ ?_)
            · intro hall
              have HAR := Lib.hid (HAU.out _ (pickL_all es HRX.out.nd HRX.out.lt hall))
              have hgB := HAX.out.gB
              have ho1 := HR.out.o1
              have bwx : Below wo.heap.size wo wx := below_of_grown HR.out.bel HAX.out.grown HR.out.bel.size (by omega)
              have HMX := Lib.hid (HM.out.keep bwx)
              obtain ⟨A8, c8, rfl, -, -⟩ := HAX.out.form
              obtain ⟨A9, c9, rfl, -, -⟩ := HMX.out.form
              have HO9 := Lib.hid HMX.out.own.row
              have hsq := HSL.out
              have hwlp : wl.heap.size ≤ wp.heap.size := Nat.le_trans HM.out.grown.size HR.out.bel.size
              have HOA := Lib.hid (OwnArcs.mono HAX.out.own hwlp)
              have hwlx : wl.heap.size ≤ wx.heap.size := HMX.out.grown.size
              rw [hsq] at HMX HO9
              obtain ⟨L, hL⟩ : ∃ L, (pickL es idx).map arcOf = L := ⟨_, rfl⟩
              have HLL := Lib.hid hL
              rw [hL] at HAR HOA HAX
              obtain ⟨nL, hnL⟩ : ∃ nL, L.length = nL := ⟨_, rfl⟩
              rw [hnL] at HOA HAX
              clear hL hall hsq hnL hwlp bwx ho1
              have hs0 := HAX.out.s0; have hs1 := HAX.out.s1; have lb := HAX.out.lt
              have hm1 := HMX.out.m1; have lg := HMX.out.lt
              have FF := Lib.hid (And.intro HR0.out.1 HR0.out.2.1)
              go_wp2_with (at_builtin; refine wpList_app1 rfl _ _ rfl eltState wl.heap.size (.slice A9 q c9) q _ rfl wx HO9.out #[.int .i64 f, .slice A8 nL c8] rfl wx.heap.size rfl rfl rfl (by simp [Value.oneCell']) (by omega) (by omega) hwlx ?_; intro g3 cap w9 ho9 hg9 hat9 hlt9; obtain ⟨y1, y2, y3⟩ := HMX.out.far hg9)
              have HMZ := Lib.hid (HMX.out.app ⟨f, L⟩ (av := .slice A8 nL c8) HOA.out (k := q + 1) (by rw [HSL.out]) hg9 ho9)
              have HDZ := Lib.hid (HD.out.app (s := ⟨f, L⟩) (by rw [HSL.out]; exact HFR.out) (by rw [HSL.out]; exact HAR.out) ⟨HFB.out, fun a ha => by
                have ha2 : a ∈ (pickL es idx).map arcOf := by rw [HLL.out]; exact ha
                obtain ⟨x, hx, rfl⟩ := List.mem_map.1 ha2
                exact HEB.out x (pickL_mem hx)⟩)
              have HLZ : Hid ((ss ++ [(⟨f, L⟩ : StateL)]).length = q + 1) := Lib.hid (by simp [HSL.out])
              go_roundw
              case rel => exact ⟨q + 1, _, _, _, by omega, by go_num, rfl, HMZ.out, HLZ.out, HDZ.out⟩
              case measure => simp [intOf]; omega
            · intro i hi w7 hni hR7 hg7 hz7 hen
              have HR7 := Lib.hid hR7; have HG7 := Lib.hid hg7; have HZ7 := Lib.hid hz7; have HNI := Lib.hid hni
              have HPS := Lib.hid (pickL_snoc es idx i hi)
              have hes := HES.out es[i] (List.getElem_mem hi)
              obtain ⟨e0, e1⟩ := hes
              generalize es[i] = x at *
              clear hR7 hg7 hz7 hni
              go_upto_region 33 with fail
              have g8 : decide ((1000000000 : Int) < x.2) = false := by simp; omega
              have hr1 := HRX.out.rlt
              have HA7 := Lib.hid (HAX.out.iter HG7.out (by rw [HRS.out]; exact Nat.le_refl _) HRX.out.nocells)
              have bk : Below w7.heap.size w7 (w7.alloc (.cells #[.int .i64 x.1.1, .int .i64 x.1.2.1, .int .i64 x.1.2.2] 74)) := (by repeat' (first | exact Below.refl _ _ | assumption | refine Below.drew ?_ | refine Below.alloc ?_ (by first | omega | (simp; done) | (simp; omega)) _ | refine Below.setCell ?_ (by first | omega | (simp; done) | (simp; omega)) _))
              have BK : Hid (Blk (w7.alloc (.cells #[.int .i64 x.1.1, .int .i64 x.1.2.1, .int .i64 x.1.2.2] 74)) w7.heap.size #[.int .i64 x.1.1, .int .i64 x.1.2.1, .int .i64 x.1.2.2] 74) := Lib.hid (Blk.new _ _ _)
              have HA8 := Lib.hid (HA7.out.keep bk); have HR8 := Lib.hid (HR7.out.below bk (Nat.le_refl _))
              generalize w7.alloc (.cells #[.int .i64 x.1.1, .int .i64 x.1.2.1, .int .i64 x.1.2.2] 74) = w8 at *
              generalize w7.heap.size = gk at *
              obtain ⟨A8, c8, rfl, -, -⟩ := HA8.out.form
              have hll : ((pickL es idx).map arcOf).length ≤ 54 := by
                rw [List.length_map, pickL_len es idx HRX.out.lt]
                have := HRX.out.len; omega
              have HO8 := Lib.hid HA8.out.own
              obtain ⟨L, hL⟩ : ∃ L, (pickL es idx).map arcOf = L := ⟨_, rfl⟩
              rw [hL] at hll HA8 HO8
              have HL := Lib.hid hL
              obtain ⟨nL, hnL⟩ : ∃ nL, L.length = nL := ⟨_, rfl⟩
              unfold OwnArcs at HO8
              rw [hnL] at hll HA8 HO8
              have HNL := Lib.hid hnL
              clear hL hnL hen bk HA7 HR7
              have kk := BK.out.cell; have lk := BK.out.lt; have hs1 := HA8.out.s1; have lb := HA8.out.lt
              have hw8 := HA8.out.grown.size
              go_wp2_with (at_builtin; refine wpList_app1 rfl _ _ rfl eltArc wp.heap.size (.slice A8 nL c8) nL (arcsCells L) rfl w8 HO8.out #[.int .i64 x.1.1, .int .i64 x.1.2.1, .int .i64 x.2, .int .i64 x.1.2.2] rfl w8.heap.size rfl rfl rfl (by simp [Value.oneCell']) (by omega) (by omega) hw8 ?_; intro g3 cap w9 ho9 hg9 hat9 hlt9; obtain ⟨y1, y2, y3⟩ := HA8.out.far hg9)
              have HAB := Lib.hid (HA8.out.app (arcOf x) (k := nL + 1) (by rw [HNL.out]) hg9 ho9)
              have hnb : (Value.slice A8 nL c8).ownBlock ≠ some wo.heap.size := own_base HA8.out.own (by have := HA8.out.gB; omega)
              have hnr := own_ne_cells HA8.out.own HR8.out.nocells
              have hbs : bs < r := by rw [← HRS.out]; exact HAB.out.gB
              have HRB := Lib.hid ((HR8.out.kept hg9 (fun e => hnb e.symm) (fun e => hnr e.symm)).setCell (a := ⟨bs, 1, none⟩) (show wo.heap.size ≠ bs by omega) (show r ≠ bs by omega) (.slice (some ⟨g3, 0, none⟩) (nL + 1) cap))
              go_roundw
              case rel => exact ⟨idx ++ [i], _, rfl, HRB.out, by rw [HPS.out, List.map_append, HL.out]; exact HAB.out⟩
              case measure =>
                have h1 := HRB.out.itLen; have h2 := HRX.out.itLen; have h3 := HRB.out.len
                rw [List.length_append, List.length_singleton] at h1 h3
                rw [h1, h2]; omega
    · have hqn : q = m.states.length := by omega
      rw [← HST.out] at *
      have HMA : Hid (OwnMach wo wl.heap.size (.agg #[.int .i64 m.start, sv]) ⟨m.start, ss⟩) := Lib.hid ⟨sv, rfl, vs, HM.out.own⟩
      have hBB : (m.states.length : Int) * WW + WW ≤ 7000000 := by
        have h2 := HOK.out.n6; have h3 := HOK.out.w1; have h4 := HOK.out.w0
        have : (m.states.length : Int) * WW ≤ 6 * 1000000 := Int.mul_le_mul (by omega) h3 h4 (by omega)
        omega
      have HVU := Lib.hid (HD.out.valid (by rw [HSL.out]; exact hqn) HV.out HOK.out hBB)
      have HRX := Lib.hid (HD.out.remX (by rw [HSL.out]; exact hqn) HV.out HOK.out hBB)
      obtain ⟨A9, c9, rfl, -, -⟩ := HM.out.form
      have hm0 := HM.out.m0; have hm1 := HM.out.m1; have lg := HM.out.lt
      have CHU := Lib.hid (fun W hb => Check_ok _ ⟨m.start, ss⟩ W (HMA.out.at_.below hb) HVU.out)
      have SOU := Lib.hid (fun W hb => Sorted_any _ ⟨m.start, ss⟩ W (HMA.out.at_.below hb) HVU.out)
      clear hqn hBB
      go_wp2_with fail
      refine (CHU.out _ (Below.refl _ _)).mono ?_; rintro e w5 ⟨rfl, b5⟩
      have hm0' := cellB b5 hm0; have hm1' := cellB b5 hm1
      have lg' : g < w5.heap.size := Nat.lt_of_lt_of_le lg b5.size
      clear hm0 hm1 lg
      go_wp2_with fail
      refine (SOU.out _ b5).mono ?_; rintro e w6 ⟨mv, rfl, o6, b6⟩
      obtain ⟨sv2, rfl, vs2, hV⟩ := o6
      have HV2 := Lib.hid hV
      obtain ⟨A2, c2, rfl, -, -⟩ := hV.form
      have bz := Below.step b5 b6
      have r0 := grown_cell HM.out.grown (by omega) HR0.out.1
      have r1 := grown_cell HM.out.grown (by omega) HR0.out.2.1
      have r2 := grown_froz HM.out.grown (by omega) HR0.out.1 HR0.out.2.2.1
      have r3 := grown_froz HM.out.grown (by omega) HR0.out.2.1 HR0.out.2.2.2
      have q0 := cellB bz r0; have q1 := cellB bz r1
      have q2 := frozB bz r0 r2; have q3 := frozB bz r1 r3
      have lw6 : w.heap.size + 1 < w6.heap.size := World.block_lt_of_cell? _ _ q0
      have hww : w.heap.size ≤ wo.heap.size := HBW.out.size
      have hw5 : w.heap.size + 1 < w5.heap.size := World.block_lt_of_cell? _ _ (cellB b5 r0)
      clear hV hm0' hm1' lg' r0 r1 r2 r3
      generalize hml : (arrM (sortK readKy) ⟨m.start, ss⟩).states.length = ml at *
      have HML := Lib.hid hml
      clear hml
      go_wp2_with fail
      refine bodyPost_ret (v := .tuple #[.agg #[.int .i64 (arrM (sortK readKy) ⟨m.start, ss⟩).start, .slice A2 ml c2], .int .i64 0]) (by simp [results, Try.results18, go_sem, *]) rfl ⟨_, _, rfl, ?_, HRX.out, ?_⟩
      · rw [← HML.out] at HV2 ⊢
        exact ⟨_, rfl, vs2, ((HV2.out.setCell (a := ⟨w.heap.size + 1, 0, none⟩) (show w.heap.size + 1 < w5.heap.size by omega) _).setCell (a := ⟨w.heap.size + 1, 1, none⟩) (show w.heap.size + 1 < w5.heap.size by omega) _).mono (by omega)⟩
      · exact ((HBW.out.trans (bz.mono hww)).setCell (by simp) _).setCell (by simp) _
end Go.Proofs.Ytlfjccgbngnjhaa
