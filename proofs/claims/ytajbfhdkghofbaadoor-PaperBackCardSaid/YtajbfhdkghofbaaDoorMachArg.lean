/- A machine that came in as an argument: how it reads, its rows' lengths paid by the form's reach. -/
import Derived.Test.YtajbfhdkghofbaaDoorMem
import Derived.Test.YtajbfhdkghofbaaDoorPick
import Derived.ProofKit
import Derived.OpenShut
import Derived.Lib.SmallJoins
import Derived.Deep.Slices
import Derived.Deep.Fields
import Derived.ChangeSame
import Derived.SizedLaws
namespace Go.Proofs.YtajbfhdkghofbaaDoor
open Go.ChangeShapes Go.WideShapes Go.ChangeAt Go.RowKit Go.Joins Go.Deep

def I64L (n : Int) : Prop := -9223372036854775808 ≤ n ∧ n ≤ 9223372036854775807
theorem list_ofL {α : Type} (p : Nat → α → Prop) : ∀ n : Nat, (∀ i, i < n → ∃ x, p i x) → ∃ l : List α, l.length = n ∧ ∀ i (h : i < l.length), p i l[i] := by
  intro n
  induction n with
  | zero => intro _; exact ⟨[], rfl, fun i h => absurd h (by simp)⟩
  | succ n ih =>
    intro h
    obtain ⟨l, hl, hp⟩ := ih (fun i hi => h i (by omega))
    obtain ⟨x, hx⟩ := h n (by omega)
    refine ⟨l ++ [x], by simp [hl], fun i hi => ?_⟩
    by_cases hlt : i < l.length
    · rw [List.getElem_append_left hlt]; exact hp i hlt
    · have : i = l.length := by simp at hi; omega
      subst this
      simp only [List.getElem_append_right (Nat.le_refl _), Nat.sub_self, List.getElem_singleton]
      rw [hl]; exact hx
/-- all that a datum weighs lies within the reach -/
def Light {H : Type} (P : Program) (t : TypeId) (d : DataW H) : Prop := ∀ n ∈ d.weights P t, n ≤ reachBytes
section
variable {H : Type} {P : Program}
theorem weightsAll_of {t : TypeId} : ∀ {l : List (DataW H)} {d : DataW H}, d ∈ l → ∀ n ∈ d.weights P t, n ∈ DataW.weightsAll P t l
  | x :: l, d, hd, n, hn => by
    simp only [DataW.weightsAll, List.mem_append]
    rcases List.mem_cons.1 hd with rfl | hd
    · exact .inl hn
    · exact .inr (weightsAll_of hd n hn)
  | [], _, hd, _, _ => by simp at hd
theorem light_arg {ts : List TypeId} {ds : List (DataW H)} (h : (DataW.weightsEach P ts ds).all (· ≤ reachBytes) = true) {j : Nat} {t : TypeId} {d : DataW H} (ht : ts[j]? = some t) (hd : ds[j]? = some d) : Light P t d := fun n hn => by
  have := List.all_eq_true.1 h n (DataW.weights_mem_each ht hd n hn)
  simpa using this
theorem light_slice {t e : TypeId} {a b : List (DataW H)} (hu : P.underlying t = some (.slice e)) (h : Light P t (.slice a b)) : (a.length + b.length) * P.bytesOf e ≤ reachBytes ∧ ∀ d ∈ a, Light P e d := by
  refine ⟨h _ (by simp [DataW.weights, hu]), fun d hd n hn => h n ?_⟩
  simp only [DataW.weights, hu, List.mem_cons, List.mem_append]
  exact .inr (.inl (weightsAll_of hd n hn))
theorem light_struct {t : TypeId} {fs : Array Field} {l : List (DataW H)} (hu : P.underlying t = some (.struct fs)) (h : Light P t (.agg l)) {j : Nat} {f : Field} {d : DataW H} (hf : fs[j]? = some f) (hd : l[j]? = some d) : Light P f.type d := fun n hn => h n (by
  simp only [DataW.weights, hu]
  exact DataW.weights_mem_each (by simp [hf]) hd n hn)
end

section
variable {H : Type} {enc : TypeId × Value → H} {P : Program} {w : World} {base : Nat} {spare : Nat → Bool} {held : Bool}

/-- a slice of structs whose fields have one cell each, within the reach -/
theorem slice_structsL {t e : TypeId} {fs : Array Field} {fuel : Nat} {v : Value} {x : DataW H × List MemPlace} (ht : P.underlying t = some (.slice e)) (he : P.underlying e = some (.struct fs))
    (hone : oneCellFields P fs = true) (hC : P.cellsOf e = fs.size) (hp : 0 < fs.size) (h : DataW.trod enc P w base spare held fuel t [v] = some x) (hL : Light P t x.1) :
    ∃ (A : Option Addr) (n c : Nat), v = .slice A n c ∧ n * P.bytesOf e ≤ reachBytes ∧ Rdy A n ∧
      ∀ i, i < n → ∃ (k : Nat) (ys : List (DataW H × List MemPlace)), ys.length = fs.size ∧ ∀ (j : Nat) (f : Field), fs[j]? = some f → ∃ (u : Value) (y : DataW H × List MemPlace), w.cell? ⟨blk A, ofs A + (i * fs.size + j), none⟩ = some u ∧ ys[j]? = some y ∧ DataW.trod enc P w base spare held k f.type [u] = some y ∧ Light P f.type y.1 := by
  rcases open_slice ht h with ⟨h0, _⟩ | ⟨a, len, cap, m, n, D, Pl, hcs, _, hl, hm, hmm, hx, hi⟩
  · simp at h0
    exact ⟨none, 0, 0, h0, by simp, rdy_zero _, fun i hi => absurd hi (by omega)⟩
  · simp at hcs
    rw [hx] at hL
    obtain ⟨hlen, hel⟩ := light_slice ht hL
    have hlen2 : len * P.bytesOf e ≤ reachBytes := by
      refine Nat.le_trans (Nat.mul_le_mul_right _ ?_) hlen
      simp
    have key : ∀ i, i < len → ∃ (k : Nat) (ys : List (DataW H × List MemPlace)), ys.length = fs.size ∧ ∀ (j : Nat) (f : Field), fs[j]? = some f → ∃ (u : Value) (y : DataW H × List MemPlace), w.cell? (a.add (i * fs.size + j)) = some u ∧ ys[j]? = some y ∧ DataW.trod enc P w base spare held k f.type [u] = some y ∧ Light P f.type y.1 := by
      intro i hlt
      have him : i < m := by rw [hmm]; split <;> omega
      obtain ⟨cs', hc, ht'⟩ := hi i him
      rw [hC] at hc
      obtain ⟨ys, n', _, hag, _, hyl, hf⟩ := DataW.trod_struct he ht'
      have hLi : Light P e (D i) := hel _ (List.mem_map.2 ⟨i, by simpa using hlt, rfl⟩)
      simp only [Prod.mk.injEq] at hag
      rw [hag.1] at hLi
      obtain ⟨_, hcl, hat⟩ := World.cells?_some hc
      refine ⟨n', ys, hyl, fun j f hj => ?_⟩
      obtain ⟨ho, hk⟩ := hone_of hone j f hj
      have hjl : j < fs.size := (Array.getElem?_eq_some_iff.1 hj).1
      have hcell := hat j hjl
      have h1 := hf j f hj
      rw [ho, hk] at h1
      have hone' : (cs'.drop j).take 1 = [cs'[j]'(by omega)] := by
        rw [List.drop_eq_getElem_cons (by omega)]
        rfl
      rw [hone'] at h1
      have hys : ys[j]? = some (ys[j]'(by omega)) := List.getElem?_eq_getElem (by omega)
      refine ⟨cs'[j]'(by omega), _, ?_, hys, h1.trans hys, light_struct he hLi hj (by rw [List.getElem?_map, hys]; rfl)⟩
      rw [← Go.Deep.add_add, hcell]
      exact List.getElem?_eq_getElem (by omega)
    obtain ⟨b, off, spot⟩ := a
    refine ⟨some ⟨b, off, spot⟩, len, cap, hcs, hlen2, fun h0 => ?_, fun i hlt => ?_⟩
    · obtain ⟨k, ys, _, hf⟩ := key 0 h0
      obtain ⟨u, y, hc, _⟩ := hf 0 fs[0] (Array.getElem?_eq_getElem hp)
      have : spot = none := by simpa [Addr.add] using World.cell?_spot hc
      subst this; rfl
    · obtain ⟨k, ys, hyl, hf⟩ := key i hlt
      refine ⟨k, ys, hyl, fun j f hj => ?_⟩
      obtain ⟨u, y, hc, hy, ht', hLy⟩ := hf j f hj
      obtain ⟨k0, ys0, _, hf0⟩ := key 0 (by omega)
      obtain ⟨u0, y0, hc0, _⟩ := hf0 0 fs[0] (Array.getElem?_eq_getElem hp)
      have : spot = none := by simpa [Addr.add] using World.cell?_spot hc0
      subst this
      rw [addr_add] at hc
      exact ⟨u, y, hc, hy, ht', hLy⟩
end

section
variable {H : Type} {enc : TypeId × Value → H} {W : World} {base : Nat} {spare : Nat → Bool} {held : Bool}

theorem fieldsArc : ∃ f0 f1 f2 f3 : Field, Tryd.prog.underlying 76 = some (.struct #[f0, f1, f2, f3]) ∧ f0.type = 3 ∧ f1.type = 3 ∧ f2.type = 3 ∧ f3.type = 3 ∧ oneCellFields Tryd.prog #[f0, f1, f2, f3] = true ∧ Tryd.prog.cellsOf 76 = 4 ∧ Tryd.prog.bytesOf 76 = 32 :=
  ⟨_, _, _, _, Tryd.underlying76, rfl, rfl, rfl, rfl, by kernel_rfl, by kernel_rfl, by kernel_rfl⟩
theorem fieldsState : ∃ f0 f1 : Field, Tryd.prog.underlying 73 = some (.struct #[f0, f1]) ∧ f0.type = 3 ∧ f1.type = 71 ∧ oneCellFields Tryd.prog #[f0, f1] = true ∧ Tryd.prog.cellsOf 73 = 2 ∧ Tryd.prog.bytesOf 73 = 32 :=
  ⟨_, _, Tryd.underlying73, rfl, rfl, by kernel_rfl, by kernel_rfl, by kernel_rfl⟩

theorem open_intL {fuel : Nat} {v : Value} {y : DataW H × List MemPlace} (h : DataW.trod enc Tryd.prog W base spare held fuel 3 [v] = some y) : ∃ a, v = .int .i64 a ∧ I64L a := by
  obtain ⟨a, e, _, wa⟩ := DataW.trod_int Tryd.underlying3 h
  simp at e
  exact ⟨a, e, wf_i64 wa⟩
theorem open_arcs {fuel : Nat} {v : Value} {y : DataW H × List MemPlace} (h : DataW.trod enc Tryd.prog W base spare held fuel 71 [v] = some y) (hL : Light Tryd.prog 71 y.1) :
    ∃ A c l, v = .slice A l.length c ∧ l.length ≤ 4398046511104 ∧ ArcsAt W A l ∧ ∀ a ∈ l, I64L a.inn ∧ I64L a.out ∧ I64L a.wt ∧ I64L a.to := by
  obtain ⟨f0, f1, f2, f3, hu, t0, t1, t2, t3, ho, hc, hby⟩ := fieldsArc
  obtain ⟨A, n, c, rfl, hn, hr, hk⟩ := slice_structsL Tryd.underlying71 hu ho hc (by simp) h hL
  obtain ⟨l, hl, hp⟩ := list_ofL (fun i (a : ArcL) => W.cell? ⟨blk A, ofs A + i * 4, none⟩ = some (.int .i64 a.inn) ∧ W.cell? ⟨blk A, ofs A + i * 4 + 1, none⟩ = some (.int .i64 a.out) ∧ W.cell? ⟨blk A, ofs A + i * 4 + 2, none⟩ = some (.int .i64 a.wt) ∧ W.cell? ⟨blk A, ofs A + i * 4 + 3, none⟩ = some (.int .i64 a.to) ∧ I64L a.inn ∧ I64L a.out ∧ I64L a.wt ∧ I64L a.to) n (by
    intro i hi
    obtain ⟨k, ys, _, hf⟩ := hk i hi
    obtain ⟨u0, y0, c0, _, h0, -⟩ := hf 0 f0 rfl
    obtain ⟨u1, y1, c1, _, h1, -⟩ := hf 1 f1 rfl
    obtain ⟨u2, y2, c2, _, h2, -⟩ := hf 2 f2 rfl
    obtain ⟨u3, y3, c3, _, h3, -⟩ := hf 3 f3 rfl
    rw [t0] at h0; rw [t1] at h1; rw [t2] at h2; rw [t3] at h3
    obtain ⟨a0, rfl, b0⟩ := open_intL h0
    obtain ⟨a1, rfl, b1⟩ := open_intL h1
    obtain ⟨a2, rfl, b2⟩ := open_intL h2
    obtain ⟨a3, rfl, b3⟩ := open_intL h3
    exact ⟨⟨a0, a1, a2, a3⟩, c0, c1, c2, c3, b0, b1, b2, b3⟩)
  subst hl
  rw [hby] at hn
  have hrb := reachBytes_lt
  have h47 : (2 : Nat) ^ 47 = 140737488355328 := rfl
  refine ⟨A, c, l, rfl, by omega, ⟨hr, fun i hi => (hp i hi).1, fun i hi => (hp i hi).2.1, fun i hi => (hp i hi).2.2.1, fun i hi => (hp i hi).2.2.2.1⟩, fun a ha => ?_⟩
  obtain ⟨i, hi, rfl⟩ := List.getElem_of_mem ha
  exact (hp i hi).2.2.2.2
theorem open_states {fuel : Nat} {v : Value} {y : DataW H × List MemPlace} (h : DataW.trod enc Tryd.prog W base spare held fuel 30 [v] = some y) (hL : Light Tryd.prog 30 y.1) :
    ∃ A c l, v = .slice A l.length c ∧ l.length ≤ 4398046511104 ∧ StatesAt W A l ∧ ∀ s ∈ l, s.arcs.length ≤ 4398046511104 := by
  obtain ⟨f0, f1, hu, t0, t1, ho, hc, hby⟩ := fieldsState
  obtain ⟨A, n, c, rfl, hn, hr, hk⟩ := slice_structsL Tryd.underlying30 hu ho hc (by simp) h hL
  obtain ⟨l, hl, hp⟩ := list_ofL (fun i (a : StateL) => W.cell? ⟨blk A, ofs A + i * 2, none⟩ = some (.int .i64 a.final) ∧ (∃ A' c, W.cell? ⟨blk A, ofs A + i * 2 + 1, none⟩ = some (.slice A' a.arcs.length c) ∧ ArcsAt W A' a.arcs) ∧ a.arcs.length ≤ 4398046511104) n (by
    intro i hi
    obtain ⟨k, ys, _, hf⟩ := hk i hi
    obtain ⟨u0, y0, c0, _, h0, -⟩ := hf 0 f0 rfl
    obtain ⟨u1, y1, c1, _, h1, hL1⟩ := hf 1 f1 rfl
    rw [t0] at h0; rw [t1] at h1 hL1
    obtain ⟨a0, rfl, b0⟩ := open_intL h0
    obtain ⟨A', c', l', rfl, hl', ha, hb⟩ := open_arcs h1 hL1
    exact ⟨⟨a0, l'⟩, c0, ⟨A', c', c1, ha⟩, hl'⟩)
  subst hl
  rw [hby] at hn
  have hrb := reachBytes_lt
  have h47 : (2 : Nat) ^ 47 = 140737488355328 := rfl
  refine ⟨A, c, l, rfl, by omega, ⟨hr, fun i hi => (hp i hi).1, fun i hi => (hp i hi).2.1⟩, fun s hs => ?_⟩
  obtain ⟨i, hi, rfl⟩ := List.getElem_of_mem hs
  exact (hp i hi).2.2
end
theorem cellsMach : Tryd.prog.cellsOf 32 = 2 := by kernel_rfl

/-- what a walk is told of a machine that came in -/
def MachArg (w : World) (v : Value) (m : MachL) : Prop := I64L m.start ∧ MachAt w v m ∧ ∀ s ∈ m.states, s.arcs.length ≤ 4398046511104
theorem MachArg.below {w w' : World} {v : Value} {m : MachL} (h : MachArg w v m) (hb : Below w.heap.size w w') : MachArg w' v m := ⟨h.1, h.2.1.below hb, h.2.2⟩

set_option maxRecDepth 100000 in
theorem open_machine_arg {H : Type} {enc : TypeId × Value → H} {W : World} {base : Nat} {v : Value} {d : DataW H} {p : List MemPlace}
    (hv : Value.okWide Tryd.prog W .any base 32 v) (h : DataW.Trod enc Tryd.prog W 0 (fun _ => true) true 32 v d p) (hL : Light Tryd.prog 32 d) :
    ∃ m, MachArg W v m := by
  obtain ⟨c0, c1, y0, y1, k, rfl, rfl, rfl, hy0, hy1⟩ := open_agg2 Tryd.underlying32 (by kernel_rfl) cellsMach hv h
  obtain ⟨a, rfl, b0⟩ := open_intL hy0
  have hL1 : Light Tryd.prog 30 y1.1 := light_struct Tryd.underlying32 hL (j := 1) rfl rfl
  obtain ⟨A, c, l, rfl, hl, hn, hx⟩ := open_states hy1 hL1
  exact ⟨⟨a, l⟩, b0, ⟨A, c, rfl, hn⟩, hx⟩
end Go.Proofs.YtajbfhdkghofbaaDoor
