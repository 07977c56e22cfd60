/- certain.Make as laws use it. -/
import Derived.Test.YtkmnacchiagipaaDoorCertMake
import Derived.Test.YtkmnacchiagipaaDoorBits
import Derived.Test.YtkmnacchiagipaaDoorCostMade
namespace Go.Proofs.YtkmnacchiagipaaDoor
open Go.RowKit

/-- the machine's weights are at most W -/
structure WtU (m : MachL) (W : Int) : Prop where
  w : ∀ s ∈ m.states, ∀ e ∈ s.arcs, e.wt ≤ W
  f : ∀ s ∈ m.states, s.final ≠ INF → s.final ≤ W
  p : 0 ≤ W
theorem wtU_of {m : MachL} {n AA : Nat} (h : Little m n AA) : WtU m 9 := ⟨h.wt, h.fin, by omega⟩
theorem wtU_costOk {m : MachL} (hv : Valid m) {W : Int} (hW : WtU m W) (hle : W ≤ 300000) {lx ly : Nat} (hx : lx ≤ 4) (hy : ly ≤ 4) : CostOk m lx ly := by
  refine costOk_of 60 4 4 W W 400 hv.size hx hy hW.p (by omega) hW.w hW.f (fun s hs => ?_) (by omega) ?_
  · have := arcs_le_of m.states s hs
    have := hv.arcs
    omega
  · have h0 := hW.p
    have e : ((60 * (4 + 1) * (4 + 1) : Nat) : Int) = 1500 := by decide
    rw [e]; omega
theorem keyLt_ordA {a b : ArcL} (h : keyLt (kOf a) (kOf b)) : 0 ≤ ordA b a := by
  unfold keyLt kOf at h
  simp only at h
  unfold ordA
  by_cases h1 : a.inn < b.inn
  · have e1 : cmp3 b.inn a.inn = 1 := by unfold cmp3; rw [if_neg (by omega), if_pos h1]
    rw [firstOf, if_neg (by rw [e1]; omega), e1]; omega
  · have e0 : cmp3 b.inn a.inn = 0 := by unfold cmp3; rw [if_neg (by omega), if_neg h1]
    have e1 : cmp3 b.out a.out = 1 := by unfold cmp3; rw [if_neg (by omega), if_pos (by omega)]
    rw [firstOf, if_pos e0, firstOf, if_neg (by rw [e1]; omega), e1]; omega
theorem made_fullA (r : RawL) (k : Int) : ∀ p, ∀ a ∈ arcsQ (mkMach r k true) p, fullA a = true := by
  have h := made_full r k
  simp only [bitsOf, bitsT_eq] at h
  intro p a ha
  obtain ⟨s, hs, hm⟩ := arcsQ_mem ha
  rw [List.all_eq_true] at h
  have h2 := h s (List.mem_of_getElem? hs)
  rw [List.all_eq_true] at h2
  exact h2 a hm
theorem CertOk.bits {m x : MachL} {WW : Int} (h : CertOk m WW x) (hf : ∀ p, ∀ a ∈ arcsQ m p, fullA a = true) : (bitsOf x.states).cert = true ∧ (bitsOf x.states).sorted = true ∧ (bitsOf x.states).full = true := by
  obtain ⟨-, Ss, hI, hl⟩ := h
  have key : ∀ s ∈ x.states, ∃ S, ArcsS m Ss S s.arcs := fun s hs => by
    obtain ⟨i, hi⟩ := List.getElem?_of_mem hs
    obtain ⟨S, -, -, h3⟩ := hI.st i s hi
    exact ⟨S, h3⟩
  have hfull : (bitsOf x.states).full = true := by
    simp only [bitsOf, bitsT_eq]
    rw [List.all_eq_true]
    intro s hs
    obtain ⟨S, h3⟩ := key s hs
    rw [List.all_eq_true]
    intro a ha
    obtain ⟨q, c, p, hp, b, hb, e1, e2, -, -⟩ := (h3.keys.mem (kOf a)).1 (List.mem_map.2 ⟨a, ha, rfl⟩)
    have := hf _ b hb
    unfold fullA at this ⊢
    rw [e1, e2] at this
    exact this
  refine ⟨?_, ?_, hfull⟩
  · have h1 : (bitsT x.states).cert = true := by
      rw [bitsT_eq]
      show (x.states.all fun s => nodupB (labsOf s.arcs)) = true
      rw [List.all_eq_true]
      intro s hs
      obtain ⟨S, h3⟩ := key s hs
      unfold nodupB
      refine decide_eq_true ?_
      exact (show (s.arcs.map kOf).Nodup from h3.keys.ord.imp fun {a b} h e => by subst e; unfold keyLt at h; omega)
    show ((bitsT x.states).cert && (bitsT x.states).full) = true
    rw [h1]
    exact hfull
  · simp only [bitsOf, bitsT_eq]
    rw [List.all_eq_true]
    intro s hs
    obtain ⟨S, h3⟩ := key s hs
    refine sortedL_true fun i _ hi => ?_
    have := List.pairwise_iff_getElem.1 (List.pairwise_map.1 h3.keys.ord) i (i + 1) (by omega) hi (by omega)
    exact keyLt_ordA this
theorem CertOk.wt {m x : MachL} {WW : Int} (h : CertOk m WW x) (hw : WtC m WW) (hx : x.states.length ≤ 60) : WtU x (WW * 61) := by
  obtain ⟨-, Ss, hI, hl⟩ := h
  have hp := hw.p
  refine ⟨fun s hs a ha => ?_, fun s hs hf => ?_, by omega⟩
  · have := hI.wts a (List.mem_append_left _ (List.mem_flatMap.2 ⟨s, hs, ha⟩))
    have h2 : WW * (Ss.length : Int) ≤ WW * 61 := Int.mul_le_mul_of_nonneg_left (by omega) hp
    omega
  · obtain ⟨i, hi⟩ := List.getElem?_of_mem hs
    obtain ⟨S, h1, h2, -⟩ := hI.st i s hi
    have hil := (List.getElem?_eq_some_iff.1 hi).1
    rcases h2 with ⟨h2, -⟩ | ⟨-, ⟨p, hp', h5, h6⟩, -⟩
    · exact absurd h2 hf
    · have h7 := (hI.left i S h1).2 p hp'; have h8 := hw.f _ h5
      have h9 : WW * (i : Int) ≤ WW * 60 := Int.mul_le_mul_of_nonneg_left (by omega) hp
      omega
theorem wtC_of {m : MachL} {WW : Int} (hv : Valid m) (h : WtU m WW) : WtC m WW := by
  refine ⟨fun q a ha => ?_, fun q hq => ?_, fun q a ha => ?_, h.p⟩
  · obtain ⟨s, hs, hm⟩ := arcsQ_mem ha
    exact ⟨((hv.st s (List.mem_of_getElem? hs)).2 a hm).w0, h.w s (List.mem_of_getElem? hs) a hm⟩
  · obtain ⟨s, hs, e⟩ := finQ_ne hq
    have h1 := (hv.st s (List.mem_of_getElem? hs)).1
    have h2 := h.f s (List.mem_of_getElem? hs) (by rw [e]; exact hq)
    have e1 : INF = 1000000001 := rfl
    unfold ValidFinal at h1
    rw [e] at h1 h2
    omega
  · obtain ⟨s, hs, hm⟩ := arcsQ_mem ha
    have := (hv.st s (List.mem_of_getElem? hs)).2 a hm
    have h1 := this.t0; have h2 := this.t1
    exact ⟨h1, by omega⟩
theorem CertOk.best {m x : MachL} {WW : Int} (h : CertOk m WW x) (hw : WtC m WW) (h0 : 0 ≤ m.start) {u v : List Int} {c c' : Int} (h1 : Best (Tot m u v false) c) (h2 : Best (Tot x u v false) c') : c' = c := by
  rcases h1 with ⟨e1, g1⟩ | ⟨g1, g2, g3⟩
  · rcases h2 with ⟨e2, -⟩ | ⟨k1, -, -⟩
    · rw [e1, e2]
    · exact absurd (h.tot_of h0 k1) (g1 _)
  · obtain ⟨d, hd, hx⟩ := h.tot_back hw g1
    rcases h2 with ⟨-, k1⟩ | ⟨k1, k2, -⟩
    · exact absurd hx (k1 _)
    · have := k2 _ hx; have := g2 _ (h.tot_of h0 k1); omega
/-- what Make answers, in one shape -/
structure MadeC (m : MachL) (WW : Int) (W : World) (A : Option Addr) (n k : Nat) (x : MachL) : Prop where
  at_ : StatesAt W A x.states
  len : x.states.length = n
  st : x.start = 0
  ok : CertOk m WW x
  v : Valid x
structure MakeE (m : MachL) (WW : Int) (W : World) (A : Option Addr) (n k : Nat) (er : Int) : Prop where
  full : (er = 5 ∧ n = 0 ∧ A = none ∧ k = 0 ∧ CertFull m WW) ∨ (er = 0 ∧ ∃ x, MadeC m WW W A n k x)
section
variable {m x : MachL} {WW : Int} {W W' : World} {A : Option Addr} {n k : Nat} {er : Int}
theorem MadeC.step (h : MadeC m WW W A n k x) (hb : Below W.heap.size W W') : MadeC m WW W' A n k x := ⟨h.at_.below hb (Nat.le_refl _), h.len, h.st, h.ok, h.v⟩
theorem MakeE.step (h : MakeE m WW W A n k er) (hb : Below W.heap.size W W') : MakeE m WW W' A n k er := ⟨h.full.imp id fun ⟨h1, x, h2⟩ => ⟨h1, x, h2.step hb⟩⟩
theorem MadeC.alloc (h : MadeC m WW W A n k x) (o : Obj) : MadeC m WW (W.alloc o) A n k x := h.step ((Below.refl _ _).alloc (Nat.le_refl _) o)
theorem MakeE.alloc (h : MakeE m WW W A n k er) (o : Obj) : MakeE m WW (W.alloc o) A n k er := h.step ((Below.refl _ _).alloc (Nat.le_refl _) o)
theorem MadeC.mach (h : MadeC m WW W A n k x) : MachAt W (.agg #[.int .i64 0, .slice A n k]) x := ⟨A, k, by rw [h.st, h.len], h.at_⟩
theorem MadeC.pos (h : MadeC m WW W A n k x) : 0 < n := by
  have := h.v.s1
  rw [h.st, h.len] at this
  omega
end
theorem Make_use (v : Value) (m : MachL) (WW : Int) (w : World) (hm : MachAt w v m) (hv : Valid m) (hw : WtC m WW) (hW : WW ≤ 10000000) (hfull : (bitsOf m.states).full = true) (h0 : 0 ≤ m.start) (ht : TabP w) :
    Calls Tryd.prog 25 #[v] w fun e w' => (∃ A k n er, e = .returned (.tuple #[.agg #[.int .i64 0, .slice A n k], .int .i64 er]) ∧ MakeE m WW w' A n k er) ∧ Below w.heap.size w w' := by
  refine (Make_any v m WW w hm hv hw hW hfull h0 ht).mono ?_
  rintro e w' ⟨h | ⟨mv, x, rfl, ho, hc, hx⟩, hb⟩
  · exact ⟨⟨none, 0, 0, 5, h.1, ⟨.inl ⟨rfl, rfl, rfl, rfl, h.2⟩⟩⟩, hb⟩
  · obtain ⟨A, c, rfl, hs⟩ := own_open ho
    exact ⟨⟨A, c, _, 0, by rw [hc.1], ⟨.inr ⟨rfl, x, hs, rfl, hc.1, hc, hx⟩⟩⟩, hb⟩
end Go.Proofs.YtkmnacchiagipaaDoor
