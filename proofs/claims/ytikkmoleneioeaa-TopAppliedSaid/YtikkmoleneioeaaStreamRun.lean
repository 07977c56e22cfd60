/- stream.run: the marks of a table, in the order of their states. -/
/- stream.may: a run of a machine. -/
/- stream.Begin. -/
/- stream.Feed (plain): what a label leads to; marks copied. -/
import Derived.Test.YtikkmoleneioeaaStreamClose
namespace Go.Proofs.Ytikkmoleneioeaa
open Go.RowKit

theorem eltMark : Elt Try.prog 32 71 (.agg #[.int .i64 0, .int .i64 0, .slice none 0 0]) 3 40 := ⟨Try.underlying32, by kernel_rfl, rfl, by omega⟩
/-- the map's entries are these -/
structure TabL (w : World) (b : Nat) (L : TabK) (X : Nat → Prop) (lst : List (Int × Value)) : Prop where
  map : MapB w b intV id lst
  at' : ∀ q : Nat, MarkIn w q X (L q) (assoc lst (q : Int))
theorem TabX.entries {w : World} {b : Nat} {L : TabK} {X : Nat → Prop} (h : TabX w b L X) : ∃ lst, TabL w b L X lst := by
  obtain ⟨lst, h1, h2⟩ := h
  exact ⟨lst, h1, h2⟩
section
variable {w w' : World} {b : Nat} {L : TabK} {X X' : Nat → Prop} {lst : List (Int × Value)}
theorem TabL.moved (h : TabL w b L X lst) (hb : w'.heap[b]? = w.heap[b]?) (hk : ∀ g, g < w.heap.size → ¬ X g → CellsB w g → w'.heap[g]? = w.heap[g]?) (hX : ∀ g, g < w.heap.size → ¬ X g → ¬ X' g) : TabL w' b L X' lst :=
  ⟨h.map.kept hb, fun q => (h.at' q).moved hk hX⟩
theorem TabL.below (h : TabL w b L X lst) (hb : Below w.heap.size w w') : TabL w' b L X lst := h.moved (hb.block b h.map.lt) (fun g hg _ _ => hb.block g hg) fun _ _ h => h
theorem TabL.set (h : TabL w b L X lst) {a : Addr} (ha : a.block ≠ b) (v : Value) (hc : ∀ q k, L q = some k → ∀ A c, assoc lst (q : Int) = some (markV q k A c) → k.out = [] ∨ blk A ≠ a.block) : TabL (w.setCell a v) b L X lst := by
  refine ⟨h.map.kept (Below.heap_setCell _ _ _ _ (Ne.symm ha)), fun q => ?_⟩
  have hq := h.at' q
  cases hL : L q with
  | none => rw [hL] at hq; exact hq
  | some k =>
    rw [hL] at hq
    obtain ⟨A, c, h1, h2, h3⟩ := hq
    refine ⟨A, c, h1, h2.moved fun hne => ?_, h3⟩
    exact Below.heap_setCell _ _ _ _ ((hc q k hL A c h1).resolve_left hne)
end
/-- the cells of a mark in the map -/
def markC (lst : List (Int × Value)) (q : Nat) : List Value := match assoc lst (q : Int) with
  | some (.agg ⟨[x, y, z]⟩) => [x, y, z]
  | _ => []
theorem markC_of {lst : List (Int × Value)} {q : Nat} {k : KeyL} {A : Option Addr} {c : Nat} (h : assoc lst (q : Int) = some (markV q k A c)) : markC lst q = [.int .i64 (q : Int), .int .i64 k.c, .slice A k.out.length c] := by
  unfold markC; rw [h]
/-- marks by their states -/
def marksL (L : TabK) (n : Nat) : List (Nat × KeyL) := (hasL L n).map fun q => (q, getK L q)
/-- a slice of marks reads as l -/
structure MarksAt (w : World) (Z : Nat → Prop) (A : Option Addr) (l : List (Nat × KeyL)) : Prop where
  rdy : Rdy A l.length
  far : l = [] ∨ ¬ Z (blk A)
  c0 : ∀ i (h : i < l.length), w.cell? ⟨blk A, ofs A + i * 3, none⟩ = some (.int .i64 (l[i].1 : Nat))
  c1 : ∀ i (h : i < l.length), w.cell? ⟨blk A, ofs A + i * 3 + 1, none⟩ = some (.int .i64 l[i].2.c)
  c2 : ∀ i (h : i < l.length), ∃ A' c, w.cell? ⟨blk A, ofs A + i * 3 + 2, none⟩ = some (.slice A' l[i].2.out.length c) ∧ Rd w A' l[i].2.out.length 1 (icells l[i].2.out) ∧ (l[i].2.out = [] ∨ ¬ Z (blk A'))
theorem MarksAt.below {w w' : World} {Z : Nat → Prop} {A : Option Addr} {l : List (Nat × KeyL)} (h : MarksAt w Z A l) (hb : Below w.heap.size w w') : MarksAt w' Z A l :=
  ⟨h.rdy, h.far, fun i hi => cell_keep hb (Nat.le_refl _) (h.c0 i hi), fun i hi => cell_keep hb (Nat.le_refl _) (h.c1 i hi), fun i hi => by
    obtain ⟨A', c, h1, h2, h3⟩ := h.c2 i hi
    exact ⟨A', c, cell_keep hb (Nat.le_refl _) h1, h2.below hb rfl, h3⟩⟩
theorem MarksAt.other {w : World} {Z Z' : Nat → Prop} {A : Option Addr} {l : List (Nat × KeyL)} (h : MarksAt w Z A l) (hz : ∀ g, Z' g → Z g) : MarksAt w Z' A l :=
  ⟨h.rdy, h.far.imp id fun h e => h (hz _ e), h.c0, h.c1, fun i hi => by
    obtain ⟨A', c, h1, h2, h3⟩ := h.c2 i hi
    exact ⟨A', c, h1, h2, h3.imp id fun h e => h (hz _ e)⟩⟩
theorem MarksAt.set {w : World} {Z : Nat → Prop} {A : Option Addr} {l : List (Nat × KeyL)} (h : MarksAt w Z A l) {a : Addr} (ha : Z a.block) (u : Value) : MarksAt (w.setCell a u) Z A l := by
  have hne : ∀ i, i < l.length → blk A ≠ a.block := fun i hi e => by
    rcases h.far with h1 | h1
    · rw [h1] at hi; simp at hi
    · exact h1 (by rw [e]; exact ha)
  have hc : ∀ i, i < l.length → ∀ o v, w.cell? ⟨blk A, o, none⟩ = some v → (w.setCell a u).cell? ⟨blk A, o, none⟩ = some v := fun i hi o v hv => by
    unfold World.cell? at hv ⊢
    simp only at hv ⊢
    rw [Below.heap_setCell _ _ _ _ (hne i hi)]; exact hv
  refine ⟨h.rdy, h.far, fun i hi => hc i hi _ _ (h.c0 i hi), fun i hi => hc i hi _ _ (h.c1 i hi), fun i hi => ?_⟩
  obtain ⟨A', c, h1, h2, h3⟩ := h.c2 i hi
  exact ⟨A', c, hc i hi _ _ h1, h2.moved fun hn => Below.heap_setCell _ _ _ _ fun e => (h3.resolve_left hn) (by rw [e]; exact ha), h3⟩
/-- a run -/
def RunAt (w : World) (Z : Nat → Prop) (v : Value) (L : TabK) (n : Nat) (fed : Int) : Prop := ∃ A c, v = .agg #[.int .i64 fed, .slice A (marksL L n).length c] ∧ MarksAt w Z A (marksL L n)
theorem RunAt.below {w w' : World} {Z : Nat → Prop} {v : Value} {L : TabK} {n : Nat} {fed : Int} (h : RunAt w Z v L n fed) (hb : Below w.heap.size w w') : RunAt w' Z v L n fed := by
  obtain ⟨A, c, h1, h2⟩ := h
  exact ⟨A, c, h1, h2.below hb⟩
theorem RunAt.other {w : World} {Z Z' : Nat → Prop} {v : Value} {L : TabK} {n : Nat} {fed : Int} (h : RunAt w Z v L n fed) (hz : ∀ g, Z' g → Z g) : RunAt w Z' v L n fed := by
  obtain ⟨A, c, h1, h2⟩ := h
  exact ⟨A, c, h1, h2.other hz⟩
theorem RunAt.set {w : World} {Z : Nat → Prop} {v : Value} {L : TabK} {n : Nat} {fed : Int} (h : RunAt w Z v L n fed) {a : Addr} (ha : Z a.block) (u : Value) : RunAt (w.setCell a u) Z v L n fed := by
  obtain ⟨A, c, h1, h2⟩ := h
  exact ⟨A, c, h1, h2.set ha u⟩
theorem marks_of_row {w : World} {b : Nat} {L : TabK} {X Z : Nat → Prop} {lst : List (Int × Value)} {B n nn c : Nat} {A : Option Addr} (h : TabL w b L X lst) (ho : w.ownsRow B 71 3 (.slice A nn c) nn ((hasL L n).flatMap (markC lst))) (hZ : ∀ g, Z g → X g ∧ g < B) : nn = (marksL L n).length ∧ MarksAt w Z A (marksL L n) := by
  have hc3 : ∀ q ∈ hasL L n, ∃ A c, markC lst q = [.int .i64 (q : Int), .int .i64 (getK L q).c, .slice A (getK L q).out.length c] ∧ Rd w A (getK L q).out.length 1 (icells (getK L q).out) ∧ ((getK L q).out = [] ∨ ¬ Z (blk A)) := fun q hq => by
    have hs : (L q).isSome = true := by unfold hasL at hq; exact (List.mem_filter.1 hq).2
    obtain ⟨k, hk⟩ := Option.isSome_iff_exists.1 hs
    have hg : getK L q = k := by unfold getK; rw [hk]; rfl
    have := h.at' q
    rw [hk] at this
    obtain ⟨A, c, h1, h2, h3⟩ := this
    rw [hg]
    exact ⟨A, c, markC_of h1, h2, h3.imp id fun h e => h (hZ _ e).1⟩
  have r := Rd.of_own ho
  have hlen : ((hasL L n).flatMap (markC lst)).length = (hasL L n).length * 3 := by
    clear r ho
    generalize hasL L n = l at *
    induction l with
    | nil => rfl
    | cons q l ih =>
      obtain ⟨A, c, e, -⟩ := hc3 q (by simp)
      rw [List.flatMap_cons, List.length_append, ih fun x hx => hc3 x (by simp [hx]), e, List.length_cons]
      simp; omega
  have hn : nn = (hasL L n).length := by have := r.len; omega
  have hml : (marksL L n).length = (hasL L n).length := by simp [marksL]
  have q : ∀ i (hi : i < (hasL L n).length) (j : Nat) (hj : j < 3), ((hasL L n).flatMap (markC lst))[i * 3 + j]? = (markC lst ((hasL L n)[i]))[j]? := by
    intro i hi j hj
    have key : ∀ (l : List Nat), (∀ q ∈ l, (markC lst q).length = 3) → ∀ i (hi : i < l.length), (l.flatMap (markC lst))[i * 3 + j]? = (markC lst l[i])[j]? := by
      intro l
      induction l with
      | nil => intro _ i hi; simp at hi
      | cons x l ih =>
        intro hl i hi
        have hx := hl x (by simp)
        rw [List.flatMap_cons]
        cases i with
        | zero => rw [List.getElem?_append_left (by omega)]; simp
        | succ i =>
          rw [List.getElem?_append_right (by omega), hx, show (i + 1) * 3 + j - 3 = i * 3 + j by omega]
          exact ih (fun q hq => hl q (by simp [hq])) i (by simpa using hi)
    exact key _ (fun q hq => by obtain ⟨A, c, e, -⟩ := hc3 q hq; rw [e]; rfl) i hi
  refine ⟨by rw [hml]; exact hn, ?_, ?_, fun i hi => ?_, fun i hi => ?_, fun i hi => ?_⟩
  · rw [hml, ← hn]; exact r.rdy
  · rcases ho.2 with ⟨hv, h0⟩ | ⟨g, cap, cur, hv, hb, -⟩
    · left; exact List.eq_nil_of_length_eq_zero (by omega)
    · right
      intro e
      have h1 := (hZ _ e).2
      simp only [Value.slice.injEq] at hv
      obtain ⟨rfl, -, -⟩ := hv
      simp only [blk_some] at h1
      omega
  all_goals
    have hi' : i < (hasL L n).length := by omega
    obtain ⟨A', c', e, hr⟩ := hc3 _ (List.getElem_mem hi')
    have e1 : (marksL L n)[i] = ((hasL L n)[i], getK L (hasL L n)[i]) := by simp [marksL]
    rw [e1]
  · exact r.at' ((q i hi' 0 (by omega)).trans (by rw [e]; rfl))
  · exact r.at' ((q i hi' 1 (by omega)).trans (by rw [e]; rfl))
  · exact ⟨A', c', r.at' ((q i hi' 2 (by omega)).trans (by rw [e]; rfl)), hr⟩
/-- the memory of run, behind close -/
structure RunW (w : World) (Z : Nat → Prop) (b g8 : Nat) (st : Int) (A : Option Addr) (n c : Nat) (L : TabK) (lst : List (Int × Value)) (fed : Int) (W : World) (k : Nat) (rv : Value) : Prop where
  mb : Blk W w.heap.size #[.int .i64 st, .slice A n c] 28
  rb : Blk W (w.heap.size + 1) #[.int .i64 0, .slice none 0 0] 34
  xb : Blk W g8 #[.int .i64 fed, rv] 34
  tab : TabL W b L (fun g => rv.ownBlock = some g ∨ g = w.heap.size ∨ g = w.heap.size + 1 ∨ g = g8 ∨ Z g) lst
  own : W.ownsRow (g8 + 1) 71 3 rv (hasL L k).length ((hasL L k).flatMap (markC lst))
  gr : w.grownBy W (some b)
section
variable {w W W' : World} {Z : Nat → Prop} {b g8 : Nat} {st : Int} {A : Option Addr} {n c : Nat} {L : TabK} {lst : List (Int × Value)} {fed : Int} {k : Nat} {rv : Value}
theorem RunW.keep (h : RunW w Z b g8 st A n c L lst fed W k rv) (hb : Below W.heap.size W W') : RunW w Z b g8 st A n c L lst fed W' k rv :=
  ⟨h.mb.step hb, h.rb.step hb, h.xb.step hb, h.tab.below hb, own_below h.own hb (Nat.le_refl _), grown_bel h.gr hb⟩
theorem RunW.ne (h : RunW w Z b g8 st A n c L lst fed W k rv) {x : Nat} (hx : x < g8 + 1) : some x ≠ rv.ownBlock := fun e => by have := (h.own.lt x e.symm).1; omega
theorem RunW.app (h : RunW w Z b g8 st A n c L lst fed W k rv) (hb : b < w.heap.size) (h8 : w.heap.size + 1 < g8) {g cap m : Nat} {cs : List Value} (hc : cs = (hasL L (k + 1)).flatMap (markC lst)) (hm : m = (hasL L (k + 1)).length)
    (ho : W'.ownsRow (g8 + 1) 71 3 (.slice (some ⟨g, 0, none⟩) m cap) m cs) (hg : W.grownBy W' rv.ownBlock) (hv : rv.ownBlock = some g ∨ W.heap.size < g) :
    RunW w Z b g8 st A n c L lst fed (W'.setCell ⟨g8, 1, none⟩ (.slice (some ⟨g, 0, none⟩) m cap)) (k + 1) (.slice (some ⟨g, 0, none⟩) m cap) := by
  subst hc; subst hm
  have h8' : ∀ x, x < g8 → x ≠ (⟨g8, 1, none⟩ : Addr).block := fun x hx e => by simp only at e; omega
  have hob : (Value.slice (some ⟨g, 0, none⟩) (hasL L (k + 1)).length cap).ownBlock = some g := rfl
  have hg1 := (ho.lt g rfl).1
  have hg2 : ∀ x, rv.ownBlock = some x → w.heap.size ≤ x := fun x hx => by have := (h.own.lt x hx).1; omega
  have ht : TabL W' b L (fun x => (Value.slice (some ⟨g, 0, none⟩) (hasL L (k + 1)).length cap).ownBlock = some x ∨ x = w.heap.size ∨ x = w.heap.size + 1 ∨ x = g8 ∨ Z x) lst := by
    refine h.tab.moved (hg.block b h.tab.map.lt (h.ne (by omega))) (fun x hl hX _ => hg.block x hl fun e => hX (.inl e.symm)) fun x hl hX e => ?_
    rcases e with e | e
    · rw [hob] at e
      cases e
      rcases hv with hv | hv
      · exact hX (.inl hv)
      · omega
    · exact hX (.inr e)
  refine ⟨(h.mb.grown hg (h.ne (by omega))).far (by simp only; omega) _, (h.rb.grown hg (h.ne (by omega))).far (by simp only; omega) _, (h.xb.grown hg (h.ne (by omega))).put 1 _, ?_, own_setCell ho (by rw [hob]; simp only [ne_eq, Option.some.injEq]; omega) _, ?_⟩
  · refine ht.set (by simp only; omega) _ fun q k1 hq A1 c1 he => ?_
    have hq2 := ht.at' q
    rw [hq] at hq2
    obtain ⟨A2, c2, e2, -, e3⟩ := hq2
    rw [he] at e2
    simp only [Option.some.injEq, markV, Value.agg.injEq, Array.mk.injEq, List.cons.injEq, Value.slice.injEq] at e2
    obtain ⟨-, -, ⟨rfl, -, -⟩, -⟩ := e2
    exact e3.imp id fun h3 e4 => h3 (.inr (.inr (.inr (.inl e4))))
  · have h1 := grown_rows h.gr hg hg2
    exact grown_rows h1 (row' := some g8) ⟨rfl, rfl, rfl, by simp [World.setCell], fun x _ hne => Below.heap_setCell _ _ _ _ (fun e => hne (by rw [e]))⟩ (fun x e => by cases e; omega)
end
/-- a run that is closed -/
def RunO (m : MachL) (L0 : TabK) (fed : Int) (Z : Nat → Prop) (w : World) (rv : Value) : Prop := ∃ L' : TabK, RunAt w Z rv L' m.states.length fed ∧ StInv m L0 ⟨L', []⟩ 0 []
set_option maxRecDepth 100000 in
set_option maxHeartbeats 8000000 in
theorem run_any (w : World) (Z : Nat → Prop) (hZ : ∀ g, Z g → g < w.heap.size) (b : Nat) (L0 : TabK) (v : Value) (m : MachL) (B : Nat) (WW : Int) (AA : Nat) (fed : Int) (hT : TabX w b L0 Z) (hm : MachAt w v m) (hv : Valid m) (hA : ∀ q, (arcsQ m q).length ≤ AA) (hw : ∀ q, ∀ a ∈ arcsQ m q, a.wt ≤ WW) (h0 : 0 ≤ WW)
    (hI : ∀ q k, L0 q = some k → q < m.states.length ∧ GoodW k.out ∧ 0 ≤ k.c ∧ KB B WW k) (hbd : B + m.states.length ≤ 10000) (hbw : ((B + m.states.length : Nat) : Int) * WW ≤ 1000000000) (hN : m.states.length + m.states.length * geo AA (m.states.length - 1) ≤ 100000) :
    Calls Try.prog 26 #[.map (some b), v, .int .i64 fed] w fun e w' => ∃ rv, e = .returned (.tuple #[rv, .int .i64 0]) ∧ RunO m L0 fed Z w' rv ∧ w.grownBy w' (some b) := by
  have hbl := hT.lt
  have hnc := hT.notCells
  have hsz := hv.size
  have HSB := Lib.hid (fun (L : TabK) (hs : SimpK m L0 L) (q : Nat) (k : KeyL) => simp_bound hv h0 hw (fun q k hk => ⟨(hI q k hk).1, (hI q k hk).2.2.2⟩) hs (q := q) (k := k))
  have CL := Lib.hid (fun W (hb : Below w.heap.size w W) (hs : W.heap.size = w.heap.size + 2) => close_any W (fun g => g = w.heap.size ∨ g = w.heap.size + 1 ∨ Z g) (fun g e => by rcases e with e | e | e <;> first | omega | (have := hZ g e; omega)) b L0 v m B WW AA (hT.moved (hb.block b hbl) (fun g hg _ _ => hb.block g hg) (fun g hl hX e => by rcases e with e | e | e <;> first | omega | exact hX e)) (hm.below hb) hv hA hw h0 hI hbd (by omega) hN)
  obtain ⟨A, c, rfl, hS⟩ := hm
  have rd := hS.rdy
  have HV := Lib.hid hv
  have HZZ := Lib.hid hZ
  have HH0 := Lib.hid (show ∀ L : TabK, hasL L 0 = [] from fun _ => rfl)
  have B1 : Below w.heap.size w ((w.alloc (.cells #[.int .i64 m.start, .slice A m.states.length c] 28)).alloc (.cells #[.int .i64 0, .slice none 0 0] 34)) := (by repeat' (first | exact Below.refl _ _ | assumption | refine Below.drew ?_ | refine Below.alloc ?_ (by first | omega | (simp; done) | (simp; omega)) _ | refine Below.setCell ?_ (by first | omega | (simp; done) | (simp; omega)) _))
  have P0 : Blk ((w.alloc (.cells #[.int .i64 m.start, .slice A m.states.length c] 28)).alloc (.cells #[.int .i64 0, .slice none 0 0] 34)) w.heap.size #[.int .i64 m.start, .slice A m.states.length c] 28 := (Blk.new _ _ _).alloc _
  have P1 : Blk ((w.alloc (.cells #[.int .i64 m.start, .slice A m.states.length c] 28)).alloc (.cells #[.int .i64 0, .slice none 0 0] 34)) (w.heap.size + 1) #[.int .i64 0, .slice none 0 0] 34 := Blk.new' (by simp)
  have hsz2 : ((w.alloc (.cells #[.int .i64 m.start, .slice A m.states.length c] 28)).alloc (.cells #[.int .i64 0, .slice none 0 0] 34)).heap.size = w.heap.size + 2 := by simp
  clear hT hI hS hv hA hw hnc hbd hN hZ
  go_enter Try.func26, Try.ntmps26
  go_wp2_with fail
  generalize (w.alloc (.cells #[.int .i64 m.start, .slice A m.states.length c] 28)).alloc (.cells #[.int .i64 0, .slice none 0 0] 34) = w2 at *
  refine (CL.out w2 B1 hsz2).mono ?_; rintro e w3 ⟨rfl, L, ht, hI, hg⟩
  obtain ⟨lst, htl⟩ := ht.entries
  have hLT : ∀ q k A1 c1, L q = some k → assoc lst (q : Int) = some (markV q k A1 c1) → k.out = [] ∨ blk A1 < w3.heap.size := fun q k A1 c1 hq he => by
    have h1 := htl.at' q
    rw [hq] at h1
    obtain ⟨A2, c2, e2, hr, -⟩ := h1
    rw [he] at e2
    simp only [Option.some.injEq, markV, Value.agg.injEq, Array.mk.injEq, List.cons.injEq, Value.slice.injEq] at e2
    obtain ⟨-, -, ⟨rfl, -, -⟩, -⟩ := e2
    by_cases hne : k.out = []
    · exact .inl hne
    · exact .inr (rd_lt hr hne).1
  have hg3 := hg.size
  have hR0 : RunW w Z b w3.heap.size m.start A m.states.length c L lst fed (w3.alloc (.cells #[.int .i64 fed, .slice none 0 0] 34)) 0 (.slice none 0 0) := by
    refine ⟨(P0.grown hg (by simp; omega)).alloc _, (P1.grown hg (by simp; omega)).alloc _, Blk.new _ _ _, ?_, ?_, grown_bel (grown_after B1 hg) ((Below.refl _ _).alloc (Nat.le_refl _) _)⟩
    · refine htl.moved (heap_alloc_old _ _ htl.map.lt) (fun g hg _ _ => heap_alloc_old _ _ hg) fun g hl hX e => ?_
      rcases e with e | e | e | e | e
      · simp [Value.ownBlock] at e
      · exact hX (.inl e)
      · exact hX (.inr (.inl e))
      · omega
      · exact hX (.inr (.inr e))
    · rw [HH0.out]; exact World.ownsRow_nil _ _ _ _
  have HR0 := Lib.hid hR0
  have HHS := Lib.hid (hasL_succ L); have HHL := Lib.hid (hasL_len L)
  have HI := Lib.hid hI
  have hb8 : w.heap.size + 1 < w3.heap.size := by omega
  have HBD := Lib.hid (fun q k (hq : L q = some k) => HSB.out L hI.simp q k hq)
  have hg8 : (w3.alloc (.cells #[.int .i64 fed, .slice none 0 0] 34)).heap.size = w3.heap.size + 1 := by simp
  have z1 := hR0.mb.cell; have zl := hR0.mb.lt
  clear hR0 ht htl hLT hg hI P0 P1 B1 CL
  go_wp2_with fail
  generalize w3.heap.size = g8 at *
  generalize w3.alloc (.cells #[.int .i64 fed, .slice none 0 0] 34) = w4 at *
  go_loopw [20] (fun iv W => ∃ (k : Nat) (rv : Value), k ≤ m.states.length ∧ iv = .int .i64 k ∧ RunW w Z b g8 m.start A m.states.length c L lst fed W k rv) (fun iv _ => m.states.length - (intOf iv).toNat)
  case atStart => exact ⟨0, _, by omega, rfl, HR0.out⟩
  case round =>
    obtain ⟨k, rv, hk, rfl, hR⟩ := hrel
    have HR := Lib.hid hR
    have i0 : (0 : Int) ≤ ↑k := by omega
    by_cases hlt : k < m.states.length
    · have i1 : (↑k : Int) < ↑m.states.length := by omega
      have hat := hR.tab.at' k
      have hsl := HHL.out k
      obtain ⟨wo, rfl⟩ : ∃ wo : World, wo = wr := ⟨_, rfl⟩
      cases hL : L k with
      | none =>
        rw [hL] at hat
        have hlk := look_none hR.tab.map hat
        have hs : hasL L (k + 1) = hasL L k := by rw [HHS.out, hL]; simp
        have HSS := Lib.hid hs
        clear hR hat hs hL
        go_wp2_with fail
        go_roundw
        case rel =>
          have h1 := HR.out.keep ((Below.refl _ _).alloc (Nat.le_refl _) (.cells #[.int .i64 0, .int .i64 0, .slice none 0 0] 71))
          exact ⟨k + 1, rv, by omega, by go_num, ⟨h1.mb, h1.rb, h1.xb, h1.tab, by rw [HSS.out]; exact h1.own, h1.gr⟩⟩
        case measure => simp [intOf]; omega
      | some k0 =>
        rw [hL] at hat
        obtain ⟨A1, c1, ha, -, -⟩ := hat
        have hlk := look_some hR.tab.map ha
        have hs : hasL L (k + 1) = hasL L k ++ [k] := by rw [HHS.out, hL]; simp
        have hcs : (hasL L (k + 1)).flatMap (markC lst) = (hasL L k).flatMap (markC lst) ++ [.int .i64 (k : Int), .int .i64 k0.c, .slice A1 k0.out.length c1] := by
          rw [hs, List.flatMap_append, List.flatMap_cons, markC_of ha]; simp
        have hln : (hasL L (k + 1)).length = (hasL L k).length + 1 := by rw [hs]; simp
        have hkb := HBD.out k k0 hL
        have hw9 : ¬ (1000000000 : Int) < k0.c := by have := hkb.2; omega
        have HCS := Lib.hid hcs; have HLN := Lib.hid hln
        obtain ⟨kc, ko⟩ := k0
        simp only [markV] at hlk
        simp only at hw9 HCS
        obtain ⟨rA, rc, rfl, -, -⟩ := own_form hR.own
        clear hR ha hs hcs hln hL hkb
        have HRb := Lib.hid (HR.out.keep ((Below.refl _ _).alloc (Nat.le_refl _) (.cells #[.int .i64 (k : Int), .int .i64 kc, .slice A1 ko.length c1] 71)))
        have x1 := HRb.out.xb.cell 1; have x2 := HRb.out.xb.froz; have x3 := HRb.out.xb.lt
        simp only [List.getElem?_toArray, List.getElem?_cons_succ, List.getElem?_cons_zero] at x1
        have hll : (hasL L k).length + 1 ≤ 1000000 := by omega
        have HOW := Lib.hid HRb.out.own
        generalize (hasL L k).length = nl at *
        go_wp2_with (at_builtin; go_loud (refine wpList_app1 rfl _ _ rfl eltMark (g8 + 1) (.slice rA nl rc) nl _ rfl (wo.alloc (.cells #[.int .i64 (k : Int), .int .i64 kc, .slice A1 ko.length c1] 71)) HOW.out #[.int .i64 (k : Int), .int .i64 kc, .slice A1 ko.length c1] rfl (wo.heap.size + 1) (by simp) rfl rfl (by simp [Value.oneCell']) hll (by omega) (by omega) ?_; intro g cap w8 ho8 hg8' hb8' hl8; have HR8 := Lib.hid (HRb.out.app hbl hb8 HCS.out.symm HLN.out.symm ho8 hg8' hb8'); have y := HRb.out.xb.grown hg8' (HRb.out.ne (by omega)); have y1 := y.cell 1; have y2 := y.froz; have y3 := y.lt; clear ho8 hg8' hb8' y))
        go_roundw
        case rel => exact ⟨k + 1, _, by omega, by go_num, HR8.out⟩
        case measure => simp [intOf]; omega
    · obtain rfl : k = m.states.length := by omega
      have i1 : ¬ (↑m.states.length : Int) < ↑m.states.length := by omega
      obtain ⟨rA, rc, rfl, -, -⟩ := own_form hR.own
      have x1 := hR.xb.cell 0; have x2 := hR.xb.cell 1; have x3 := hR.xb.lt
      have r1 := hR.rb.froz; have r2 := hR.rb.lt; have r3 := hR.rb.cell 0; have r4 := hR.rb.cell 1
      simp only [List.getElem?_toArray, List.getElem?_cons_succ, List.getElem?_cons_zero] at x1 x2 r3 r4
      have hfin : RunAt ((wr.setCell ⟨w.heap.size + 1, 0, none⟩ (.int .i64 fed)).setCell ⟨w.heap.size + 1, 1, none⟩ (.slice rA (hasL L m.states.length).length rc)) Z (.agg #[.int .i64 fed, .slice rA (hasL L m.states.length).length rc]) L m.states.length fed ∧ w.grownBy ((wr.setCell ⟨w.heap.size + 1, 0, none⟩ (.int .i64 fed)).setCell ⟨w.heap.size + 1, 1, none⟩ (.slice rA (hasL L m.states.length).length rc)) (some b) := by
        have hset : ∀ (W : World) (o : Nat) (u : Value), TabL W b L (fun g => (Value.slice rA (hasL L m.states.length).length rc).ownBlock = some g ∨ g = w.heap.size ∨ g = w.heap.size + 1 ∨ g = g8 ∨ Z g) lst → TabL (W.setCell ⟨w.heap.size + 1, o, none⟩ u) b L (fun g => (Value.slice rA (hasL L m.states.length).length rc).ownBlock = some g ∨ g = w.heap.size ∨ g = w.heap.size + 1 ∨ g = g8 ∨ Z g) lst := fun W o u ht => by
          refine ht.set (by simp only; omega) _ fun q k1 hq A1 c1 he => ?_
          have hq2 := ht.at' q
          rw [hq] at hq2
          obtain ⟨A2, c2, e2, -, e3⟩ := hq2
          rw [he] at e2
          simp only [Option.some.injEq, markV, Value.agg.injEq, Array.mk.injEq, List.cons.injEq, Value.slice.injEq] at e2
          obtain ⟨-, -, ⟨rfl, -, -⟩, -⟩ := e2
          exact e3.imp id fun h3 e4 => h3 (.inr (.inr (.inl e4)))
        have hne : (Value.slice rA (hasL L m.states.length).length rc).ownBlock ≠ some (w.heap.size + 1) := fun e => by have := (hR.own.lt _ e).1; omega
        obtain ⟨h1, h2⟩ := marks_of_row (hset _ 1 (.slice rA (hasL L m.states.length).length rc) (hset _ 0 (.int .i64 fed) hR.tab)) (own_setCell (own_setCell hR.own hne _) hne _) (Z := Z) (fun g e => ⟨.inr (.inr (.inr (.inr e))), by have := HZZ.out g e; omega⟩)
        refine ⟨⟨rA, rc, by rw [← h1], h2⟩, ?_⟩
        have hrow : ∀ (W : World) (o : Nat) (u : Value), w.grownBy W (some b) → w.grownBy (W.setCell ⟨w.heap.size + 1, o, none⟩ u) (some b) := fun W o u h => grown_rows h (row' := some (w.heap.size + 1)) ⟨rfl, rfl, rfl, by simp [World.setCell], fun x _ hne => Below.heap_setCell _ _ _ _ (fun e => hne (by rw [e]))⟩ (fun x e => by cases e; omega)
        exact hrow _ _ _ (hrow _ _ _ hR.gr)
      have HF := Lib.hid hfin
      clear hR hfin
      generalize (hasL L m.states.length).length = nl at *
      go_wp2_with fail
      refine bodyPost_ret (v := .tuple #[.agg #[.int .i64 fed, .slice rA nl rc], .int .i64 0]) (by simp [results, Try.results26, go_sem, *]) rfl ⟨_, rfl, ⟨L, HF.out.1, HI.out⟩, HF.out.2⟩
end Go.Proofs.Ytikkmoleneioeaa

namespace Go.Proofs.Ytikkmoleneioeaa
open Go.RowKit

theorem bad_ok (a : Int) (w : World) (h : 1 ≤ a ∧ a ≤ 1000) : Calls Try.prog 47 #[.int .i64 a] w fun e w' => e = .returned (.bool false) ∧ w = w' := by
  have h1 : ¬ a < 1 := by omega
  have h2 : ¬ 1000 < a := by omega
  go_enter Try.func47, Try.ntmps47
  go_wp2
  go_ret
  exact ⟨rfl, rfl⟩
set_option maxRecDepth 100000 in
set_option maxHeartbeats 1000000 in
theorem index_ints (A : Option Addr) (c n : Nat) (l : List Int) (w : World) (hn : l.length = n) (h : Rd w A n 1 (icells l)) (hl : n ≤ 1000000) (hg : GoodW l) :
    Calls Try.prog 65 #[.slice A n c, .func (.func 47) #[] #[]] w fun e w' => e = .returned (.int .i64 (-1)) ∧ w = w' := by
  have HC := Lib.hid (rdi_cell h)
  have HG := Lib.hid hg
  have rd := h.rdy
  have HN := Lib.hid hn
  clear h hg hn
  go_enter Try.func65, Try.ntmps65
  go_wp2
  go_loop [8] (fun i => ∃ k : Nat, k ≤ n ∧ i = .int .i64 k) (fun i => n - (intOf i).toNat)
  case atStart => exact ⟨0, by omega, rfl⟩
  case round =>
    obtain ⟨k, hk, rfl⟩ := hrel
    by_cases hln : k < n
    · have hlt : k < l.length := by have := HN.out; omega
      have hcell := HC.out k hlt
      have hv := HG.out _ (List.getElem_mem hlt)
      have q1 : (0 : Int) ≤ ↑k := by omega
      have q2 : (↑k : Int) < ↑n := by omega
      generalize l[k] = a at *
      have HVV := Lib.hid hv
      clear hv
      go_wp2_with (refine (bad_ok a _ HVV.out).mono ?_; rintro e w2 ⟨rfl, rfl⟩)
      go_round
      case rel => exact ⟨k + 1, by omega, by go_num⟩
      case measure => simp [intOf]; omega
    · have q2 : ¬ (↑k : Int) < ↑n := by omega
      go_wp2
      go_ret
      exact ⟨rfl, rfl⟩
theorem contains_ints (A : Option Addr) (c n : Nat) (l : List Int) (w : World) (hn : l.length = n) (h : Rd w A n 1 (icells l)) (hl : n ≤ 1000000) (hg : GoodW l) :
    Calls Try.prog 46 #[.slice A n c, .func (.func 47) #[] #[]] w fun e w' => e = .returned (.bool false) ∧ w = w' := by
  have I := Lib.hid (index_ints A c n l w hn h hl hg)
  clear h hg hn
  go_enter Try.func46, Try.ntmps46
  go_wp2_with fail
  refine I.out.mono ?_; rintro e w2 ⟨rfl, rfl⟩
  go_wp2_with fail
  go_ret
  exact ⟨rfl, rfl⟩
/-- marks that a run may have -/
structure MayL (n : Nat) (l : List (Nat × KeyL)) : Prop where
  up : ∀ i (h : i + 1 < l.length), l[i].1 < l[i + 1].1
  ok : ∀ x ∈ l, x.1 < n ∧ GoodW x.2.out ∧ (0 ≤ x.2.c ∧ x.2.c ≤ 1000000000) ∧ x.2.out.length ≤ 800
theorem marksL_up (L : TabK) (n : Nat) : ∀ i (h : i + 1 < (marksL L n).length), (marksL L n)[i].1 < (marksL L n)[i + 1].1 := by
  intro i h
  have hp : (hasL L n).Pairwise (· < ·) := by unfold hasL; exact (List.pairwise_lt_range).filter _
  have hl : (marksL L n).length = (hasL L n).length := by simp [marksL]
  have := List.pairwise_iff_getElem.1 hp i (i + 1) (by omega) (by omega) (by omega)
  simpa [marksL] using this
set_option maxRecDepth 100000 in
set_option maxHeartbeats 4000000 in
theorem may_ok (st : Int) (Am A : Option Addr) (n cm c : Nat) (l : List (Nat × KeyL)) (fed : Int) (w : World) {Z : Nat → Prop} (h : MarksAt w Z A l) (hm : MayL n l) (hf : 0 ≤ fed ∧ fed ≤ 12) (_hn : n ≤ 60) (hll : l.length ≤ 60) :
    Calls Try.prog 27 #[.agg #[.int .i64 st, .slice Am n cm], .agg #[.int .i64 fed, .slice A l.length c]] w fun e w' => e = .returned (.bool true) ∧ Below w.heap.size w w' := by
  have HM := Lib.hid h; have HY := Lib.hid hm
  have rd := h.rdy
  have f1 : ¬ fed < 0 := by omega
  have f2 : ¬ 12 < fed := by omega
  have b1 : Below w.heap.size w ((w.alloc (.cells #[.int .i64 st, .slice Am n cm] 28)).alloc (.cells #[.int .i64 fed, .slice A l.length c] 34)) := (by repeat' (first | exact Below.refl _ _ | assumption | refine Below.drew ?_ | refine Below.alloc ?_ (by first | omega | (simp; done) | (simp; omega)) _ | refine Below.setCell ?_ (by first | omega | (simp; done) | (simp; omega)) _))
  have P0 : Blk ((w.alloc (.cells #[.int .i64 st, .slice Am n cm] 28)).alloc (.cells #[.int .i64 fed, .slice A l.length c] 34)) w.heap.size #[.int .i64 st, .slice Am n cm] 28 := (Blk.new _ _ _).alloc _
  have B1 := Lib.hid b1; have HP := Lib.hid P0
  clear h hm b1 P0
  go_enter Try.func27, Try.ntmps27
  go_wp2_with fail
  generalize (w.alloc (.cells #[.int .i64 st, .slice Am n cm] 28)).alloc (.cells #[.int .i64 fed, .slice A l.length c] 34) = w1 at *
  go_loopw [5, 19] (fun lv iv wr => ∃ (k : Nat) (z : Int), k ≤ l.length ∧ iv = .int .i64 k ∧ lv = .int .i64 z ∧ (∀ h : k < l.length, z < (l[k].1 : Int)) ∧ Below w1.heap.size w1 wr) (fun _ iv _ => l.length - (intOf iv).toNat)
  case atStart => exact ⟨0, -1, by omega, rfl, rfl, fun h => by omega, Below.refl _ _⟩
  case round =>
    obtain ⟨k, z, hk, rfl, rfl, hz, bel⟩ := hrel
    have i0 : (0 : Int) ≤ ↑k := by omega
    have hbw := B1.out.trans (bel.mono B1.out.size)
    have HBW := Lib.hid hbw
    by_cases hlt : k < l.length
    · have i1 : (↑k : Int) < ↑l.length := by omega
      have hMr := HM.out.below hbw
      have d0 := hMr.c0 k hlt; have d1 := hMr.c1 k hlt
      obtain ⟨A2, c2, d2, hr, -⟩ := hMr.c2 k hlt
      have hok := HY.out.ok _ (List.getElem_mem hlt)
      have hz1 := hz hlt
      have HUP : Hid (∀ h : k + 1 < l.length, (l[k].1 : Int) < (l[k + 1].1 : Int)) := Lib.hid (fun h => by have := HY.out.up k h; omega)
      generalize l[k] = x at *
      obtain ⟨q, kc, ko⟩ := x
      simp only at d0 d1 d2 hr hok hz1 HUP
      obtain ⟨hq, hg, ⟨hc0, hc1⟩, hlen⟩ := hok
      have lA := World.block_lt_of_cell? _ _ d0
      obtain ⟨wo, rfl⟩ : ∃ wo : World, wo = wr := ⟨_, rfl⟩
      have CT := Lib.hid (contains_ints A2 c2 ko.length ko (wo.alloc (.cells #[.int .i64 (q : Int), .int .i64 kc, .slice A2 ko.length c2] 71)) rfl (hr.below ((Below.refl _ _).alloc (Nat.le_refl _) _) rfl) (by omega) hg)
      have m1' := ((HP.out.step bel).alloc (.cells #[.int .i64 (q : Int), .int .i64 kc, .slice A2 ko.length c2] 71)).cell 1
      have ml := (HP.out.step bel).lt
      simp only [List.getElem?_toArray, List.getElem?_cons_succ, List.getElem?_cons_zero] at m1'
      have j1 : ¬ (q : Int) ≤ z := by omega
      have j2 : ¬ (n : Int) ≤ (q : Int) := by omega
      have j3 : ¬ kc < 0 := by omega
      have j4 : ¬ 1000000000 < kc := by omega
      have j5 : ¬ 800 < (ko.length : Int) := by omega
      clear hMr hr hg hz hz1 hbw
      generalize ko.length = nk at *
      go_wp2_with fail
      refine CT.out.mono ?_; rintro e w2 ⟨rfl, rfl⟩
      go_wp2_with fail
      go_roundw
      case rel => exact ⟨k + 1, (q : Int), by omega, by go_num, rfl, HUP.out, bel.alloc bel.size _⟩
      case measure => simp [intOf]; omega
    · have i1 : ¬ (↑k : Int) < ↑l.length := by omega
      clear hbw
      go_wp2_with fail
      go_ret
      exact ⟨rfl, HBW.out⟩
end Go.Proofs.Ytikkmoleneioeaa

namespace Go.Proofs.Ytikkmoleneioeaa
open Go.RowKit

/-- a machine that is small enough to be fed -/
structure SmallS (m : MachL) (WW : Int) (AA : Nat) : Prop where
  arcs : ∀ q, (arcsQ m q).length ≤ AA
  wts : ∀ q, ∀ a ∈ arcsQ m q, a.wt ≤ WW
  w0 : 0 ≤ WW
  w1 : WW ≤ 1000000
  size : m.states.length + m.states.length * geo AA (m.states.length - 1) ≤ 100000
/-- marks behind the word x, and how far they are at most -/
def boundS (n k : Nat) : Nat := n + k * (n + 1)
structure StT (m : MachL) (WW : Int) (x : List Int) (L : TabK) : Prop where
  tab : Tab m x L
  kb : ∀ q k, L q = some k → KB (boundS m.states.length x.length) WW k
theorem bound_le {n k : Nat} (hn : n ≤ 60) (hk : k ≤ 12) : boundS n k ≤ 792 := by
  unfold boundS
  have := Nat.mul_le_mul hk (show n + 1 ≤ 61 by omega)
  omega
theorem bound_w {B : Nat} {WW : Int} (hB : B ≤ 792) (h0 : 0 ≤ WW) (h1 : WW ≤ 1000000) : (B : Int) * WW ≤ 1000000000 := by
  have h2 : (B : Int) * WW ≤ 792 * WW := Int.mul_le_mul_of_nonneg_right (by omega) h0
  omega
theorem StT.may {m : MachL} (hv : Valid m) {WW : Int} {AA : Nat} (hs : SmallS m WW AA) {x : List Int} {L : TabK} (h : StT m WW x L) (hx : x.length ≤ 12) : MayL m.states.length (marksL L m.states.length) := by
  have hb := bound_le hv.size hx
  refine ⟨marksL_up L _, fun y hy => ?_⟩
  unfold marksL at hy
  obtain ⟨q, hq, rfl⟩ := List.mem_map.1 hy
  have hs' : (L q).isSome = true := by unfold hasL at hq; exact (List.mem_filter.1 hq).2
  obtain ⟨k, hk⟩ := Option.isSome_iff_exists.1 hs'
  have hg : getK L q = k := by unfold getK; rw [hk]; rfl
  simp only [hg]
  obtain ⟨h1, h2, h3⟩ := h.tab.good hv hk
  have h4 := h.kb q k hk
  have h5 := bound_w hb hs.w0 hs.w1
  exact ⟨h1, h2, ⟨h3, Int.le_trans h4.2 h5⟩, by have := h4.1; omega⟩
theorem marksL_len (L : TabK) (n : Nat) : (marksL L n).length ≤ n := by
  unfold marksL; rw [List.length_map]; exact hasL_len L n
def L00 (m : MachL) : TabK := if 0 ≤ m.start then updK (fun _ => none) m.start.toNat ⟨0, []⟩ else fun _ => none
theorem l00_min (m : MachL) (q : Nat) : MinK (I0 m q) (L00 m q) := by
  unfold L00
  by_cases h : 0 ≤ m.start
  · rw [if_pos h]
    by_cases e : q = m.start.toNat
    · subst e
      rw [updK_at]
      exact ⟨fun k hk => ⟨h, rfl, (Option.some.inj hk).symm⟩, fun k hk => ⟨_, rfl, by rw [hk.2.2]; exact klt.irrefl _⟩⟩
    · rw [updK_ne _ _ e]
      exact ⟨fun k hk => by simp at hk, fun k hk => absurd hk.2.1 e⟩
  · rw [if_neg h]
    exact ⟨fun k hk => by simp at hk, fun k hk => absurd hk.1 h⟩
theorem begin_st {m : MachL} (hv : Valid m) {WW : Int} {AA : Nat} (hs : SmallS m WW AA) {L : TabK} (h : StInv m (L00 m) ⟨L, []⟩ 0 []) : StT m WW [] L := by
  refine ⟨tab_begin fun q => ext_min (l00_min m) (h.done rfl q), fun q k hk => ?_⟩
  have hI : ∀ q k, L00 m q = some k → q < m.states.length ∧ KB 0 WW k := fun q k hq => by
    obtain ⟨h0, rfl, rfl⟩ := (l00_min m q).1 k hq
    exact ⟨by have := hv.s1; omega, by simp, by simp⟩
  have := simp_bound hv hs.w0 hs.wts hI h.simp hk
  unfold boundS
  simpa using this
theorem below_map {B b : Nat} {w w1 w2 : World} (h : Below B w w1) (hg : w1.grownBy w2 (some b)) (hB : B ≤ w1.heap.size) (hb : B ≤ b) : Below B w w2 := h.grown hg hB (fun k hk => by cases hk; omega)
def BegO (m : MachL) (WW : Int) (w : World) (rv : Value) : Prop := ∃ L : TabK, RunAt w (fun _ => False) rv L m.states.length 0 ∧ StT m WW [] L
set_option maxRecDepth 100000 in
set_option maxHeartbeats 4000000 in
theorem Begin_any (v : Value) (m : MachL) (w : World) (WW : Int) (AA : Nat) (hm : MachAt w v m) (hv : Valid m) (hs : SmallS m WW AA) :
    Calls Try.prog 11 #[v] w fun e w' => ∃ rv, e = .returned (.tuple #[rv, .int .i64 0]) ∧ BegO m WW w' rv ∧ Below w.heap.size w w' := by
  have CH := Lib.hid (fun W (hb : Below w.heap.size w W) => Check_ok v m W (hm.below hb) hv)
  have hI : ∀ q k, L00 m q = some k → q < m.states.length ∧ GoodW k.out ∧ 0 ≤ k.c ∧ KB 0 WW k := fun q k hq => by
    obtain ⟨h0, rfl, rfl⟩ := (l00_min m q).1 k hq
    refine ⟨by have := hv.s1; omega, ?_, by simp, by simp, by simp⟩
    intro a ha; cases ha
  have hsz := hv.size
  have HB := Lib.hid (fun (L : TabK) (h : StInv m (L00 m) ⟨L, []⟩ 0 []) => begin_st hv hs h)
  have RN := Lib.hid (fun W (hb : Below w.heap.size w W) (h2 : w.heap.size + 2 ≤ W.heap.size) b (hT : TabX W b (L00 m) (fun g => g < w.heap.size + 2)) => run_any W (fun g => g < w.heap.size + 2) (fun g e => by omega) b (L00 m) v m 0 WW AA 0 hT (hm.below hb) hv hs.arcs hs.wts hs.w0 hI (by omega) (bound_w (by omega) hs.w0 hs.w1) hs.size)
  have HFIN : Hid (∀ (W : World) (rv : Value) (L : TabK) (A : Option Addr) (c k : Nat), RunAt W (fun g => g < w.heap.size + 2) rv L m.states.length 0 → StInv m (L00 m) ⟨L, []⟩ 0 [] → ∀ u u', BegO m WW ((W.setCell ⟨w.heap.size + 1, 0, none⟩ u).setCell ⟨w.heap.size + 1, 1, none⟩ u') rv) := Lib.hid fun W rv L A c k hr hi u u' =>
    ⟨L, ((hr.set (a := ⟨w.heap.size + 1, 0, none⟩) (by show w.heap.size + 1 < _; omega) u).set (a := ⟨w.heap.size + 1, 1, none⟩) (by show w.heap.size + 1 < _; omega) u').other fun _ e => e.elim, HB.out L hi⟩
  obtain ⟨A, c, rfl, hS⟩ := hm
  have hst := hv.s1; have hst0 := hv.s0
  by_cases h0 : 0 ≤ m.start
  · have HL0 : L00 m = updK (fun _ => none) m.start.toNat ⟨0, []⟩ := by unfold L00; rw [if_pos h0]
    obtain ⟨p, hp⟩ : ∃ p : Nat, m.start = (p : Int) := ⟨m.start.toNat, by omega⟩
    rw [hp, Int.toNat_natCast] at HL0
    rw [hp] at CH RN ⊢
    have BT := Lib.hid (fun W => better_any (W.alloc (.map #[] 0)) W.heap.size (fun _ => none) (fun g => g < w.heap.size + 2) p ⟨0, []⟩ none 0 (TabX.made W _) (Rd.nil _ _ _) (.inl rfl) (fun a ha => by cases ha) (by simp) (fun k0 h => by simp at h))
    have hbt : betB (fun _ => none) p ⟨0, []⟩ = true := rfl
    have hpt : putK (fun _ => none) p ⟨0, []⟩ = L00 m := by rw [HL0]; rfl
    rw [hbt, hpt] at BT
    have q0 : (0 : Int) ≤ (p : Int) := by omega
    clear hS hv hs hI hsz hp h0 HL0 hbt hpt hst hst0 HB
    go_enter Try.func11, Try.ntmps11
    go_wp2_with fail
    refine (CH.out _ (by repeat' (first | exact Below.refl _ _ | assumption | refine Below.drew ?_ | refine Below.alloc ?_ (by first | omega | (simp; done) | (simp; omega)) _ | refine Below.setCell ?_ (by first | omega | (simp; done) | (simp; omega)) _))).mono ?_; rintro e w1 ⟨rfl, bel⟩; obtain ⟨c1, f1⟩ := bcell bel; have z1 := bel.size; simp at z1; (try have y0 : w.heap.size < w1.heap.size := by omega); (try have y1 : w.heap.size + 1 < w1.heap.size := by omega); (try have y2 : w.heap.size + 1 + 1 < w1.heap.size := by omega); (try have y3 : w.heap.size + 1 + 1 + 1 < w1.heap.size := by omega); (try have y4 : w.heap.size + 1 + 1 + 1 + 1 < w1.heap.size := by omega); (try have y5 : w.heap.size + 1 + 1 + 1 + 1 + 1 < w1.heap.size := by omega); (try have y6 : w.heap.size + 1 + 1 + 1 + 1 + 1 + 1 < w1.heap.size := by omega)
    have BE := Lib.hid bel
    have hmm := run_makeMap (P := Try.prog) 68 w1
    go_wp2_with fail
    refine (BT.out w1).mono ?_; rintro e w3 ⟨rfl, ht, hg⟩
    have bel1 := bel.alloc bel.size (.map #[] 0)
    have bel3 := below_map bel1 hg bel1.size (by simp; omega)
    have w0 : Below w.heap.size w ((w.alloc (.cells #[.int .i64 (p : Int), .slice A m.states.length c] 28)).alloc (.cells #[.int .i64 0, .slice none 0 0] 34)) := (by repeat' (first | exact Below.refl _ _ | assumption | refine Below.drew ?_ | refine Below.alloc ?_ (by first | omega | (simp; done) | (simp; omega)) _ | refine Below.setCell ?_ (by first | omega | (simp; done) | (simp; omega)) _))
    have w03 := w0.trans (bel3.mono w0.size)
    obtain ⟨c3, f3⟩ := bcell bel3
    have z3 := bel3.size
    simp at z3
    have y3 : w.heap.size < w3.heap.size := by omega
    clear c1 f1 y0 y1 hmm hg bel bel1 BT BE
    go_wp2_with fail
    refine (RN.out w3 w03 (by omega) _ ht).mono ?_; rintro e w4 ⟨rv, rfl, ho, hg4⟩
    have bel4 := below_map bel3 hg4 bel3.size (by simp; omega)
    have w04 := w0.trans (bel4.mono w0.size)
    obtain ⟨L, hr, hi⟩ := ho
    have HF := Lib.hid (fun u u' => HFIN.out w4 rv L none 0 0 hr hi u u')
    obtain ⟨rA, rc, rfl, hma⟩ := hr
    obtain ⟨c4, f4⟩ := bcell bel4
    have z4 := bel4.size
    simp at z4
    have y4 : w.heap.size + 1 < w4.heap.size := by omega
    have HB4 := Lib.hid (fun u u' => ((w04.setCell (p := ⟨w.heap.size + 1, 0, none⟩) (by show w.heap.size ≤ w.heap.size + 1; omega) u).setCell (p := ⟨w.heap.size + 1, 1, none⟩) (by show w.heap.size ≤ w.heap.size + 1; omega) u'))
    clear hg4 hi hma RN bel3 bel4 w04 w0 CH
    generalize (marksL L m.states.length).length = nl at *
    go_wp2_with fail
    refine bodyPost_ret (v := .tuple #[.agg #[.int .i64 0, .slice rA nl rc], .int .i64 0]) (by simp [results, Try.results11, go_sem, *]) rfl ⟨_, rfl, HF.out _ _, HB4.out _ _⟩
  · have HL0 : L00 m = fun _ => none := by unfold L00; rw [if_neg h0]
    have hst1 : m.start = -1 := by omega
    rw [hst1] at CH RN ⊢
    rw [HL0] at RN HFIN
    clear hS hv hs hI hsz hst1 h0 HL0 hst hst0 HB
    go_enter Try.func11, Try.ntmps11
    go_wp2_with fail
    refine (CH.out _ (by repeat' (first | exact Below.refl _ _ | assumption | refine Below.drew ?_ | refine Below.alloc ?_ (by first | omega | (simp; done) | (simp; omega)) _ | refine Below.setCell ?_ (by first | omega | (simp; done) | (simp; omega)) _))).mono ?_; rintro e w1 ⟨rfl, bel⟩; obtain ⟨c1, f1⟩ := bcell bel; have z1 := bel.size; simp at z1; (try have y0 : w.heap.size < w1.heap.size := by omega); (try have y1 : w.heap.size + 1 < w1.heap.size := by omega); (try have y2 : w.heap.size + 1 + 1 < w1.heap.size := by omega); (try have y3 : w.heap.size + 1 + 1 + 1 < w1.heap.size := by omega); (try have y4 : w.heap.size + 1 + 1 + 1 + 1 < w1.heap.size := by omega); (try have y5 : w.heap.size + 1 + 1 + 1 + 1 + 1 < w1.heap.size := by omega); (try have y6 : w.heap.size + 1 + 1 + 1 + 1 + 1 + 1 < w1.heap.size := by omega)
    have hmm := run_makeMap (P := Try.prog) 68 w1
    have bel3 := bel.alloc bel.size (.map #[] 0)
    have w0 : Below w.heap.size w ((w.alloc (.cells #[.int .i64 (-1), .slice A m.states.length c] 28)).alloc (.cells #[.int .i64 0, .slice none 0 0] 34)) := (by repeat' (first | exact Below.refl _ _ | assumption | refine Below.drew ?_ | refine Below.alloc ?_ (by first | omega | (simp; done) | (simp; omega)) _ | refine Below.setCell ?_ (by first | omega | (simp; done) | (simp; omega)) _))
    have w03 := w0.trans (bel3.mono w0.size)
    have RR := Lib.hid (RN.out _ w03 (by simp; omega) w1.heap.size (TabX.made w1 _))
    have hz3 : w.heap.size + 2 ≤ w1.heap.size := by omega
    go_wp2_with fail
    refine RR.out.mono ?_; rintro e w4 ⟨rv, rfl, ho, hg4⟩
    clear c1 f1 y0 y1 hmm bel RR
    have bel4 := below_map bel3 hg4 bel3.size (by simp; omega)
    have w04 := w0.trans (bel4.mono w0.size)
    obtain ⟨L, hr, hi⟩ := ho
    have HF := Lib.hid (fun u u' => HFIN.out w4 rv L none 0 0 hr hi u u')
    obtain ⟨rA, rc, rfl, hma⟩ := hr
    obtain ⟨c4, f4⟩ := bcell bel4
    have z4 := bel4.size
    simp at z4
    have y4 : w.heap.size + 1 < w4.heap.size := by omega
    have HB4 := Lib.hid (fun u u' => ((w04.setCell (p := ⟨w.heap.size + 1, 0, none⟩) (by show w.heap.size ≤ w.heap.size + 1; omega) u).setCell (p := ⟨w.heap.size + 1, 1, none⟩) (by show w.heap.size ≤ w.heap.size + 1; omega) u'))
    clear hg4 hi hma RN bel3 bel4 w04 w0 CH
    generalize (marksL L m.states.length).length = nl at *
    go_wp2_with fail
    refine bodyPost_ret (v := .tuple #[.agg #[.int .i64 0, .slice rA nl rc], .int .i64 0]) (by simp [results, Try.results11, go_sem, *]) rfl ⟨_, rfl, HF.out _ _, HB4.out _ _⟩
end Go.Proofs.Ytikkmoleneioeaa

namespace Go.Proofs.Ytikkmoleneioeaa
open Go.RowKit

/-- marks along arcs -/
def JL (pr : List (KeyL × ArcL)) (q : Nat) (k : KeyL) : Prop := ∃ x ∈ pr, q = x.2.to.toNat ∧ k = extK x.1 x.2
theorem jl_nil (q : Nat) : MinK (JL [] q) none := ⟨fun k hk => by simp at hk, fun k ⟨x, hx, _⟩ => by cases hx⟩
theorem jl_snoc {pr : List (KeyL × ArcL)} {N : TabK} (h : ∀ q, MinK (JL pr q) (N q)) (k : KeyL) (a : ArcL) (q : Nat) : MinK (JL (pr ++ [(k, a)]) q) (putK N a.to.toNat (extK k a) q) := by
  refine (put_min h a.to.toNat (extK k a) q).congr fun k' => ?_
  unfold JL
  constructor
  · rintro (⟨x, hx, h1⟩ | ⟨h1, h2⟩)
    · exact ⟨x, by simp [hx], h1⟩
    · exact ⟨(k, a), by simp, h1, h2⟩
  · rintro ⟨x, hx, h1⟩
    rcases List.mem_append.1 hx with hx | hx
    · exact .inl ⟨x, hx, h1⟩
    · rw [List.mem_singleton.1 hx] at h1
      exact .inr h1
def prT (lab : Int) (k : KeyL) (arcs : List ArcL) : List (KeyL × ArcL) := (arcs.filter fun a => a.inn == lab).map fun a => (k, a)
def prA (m : MachL) (lab : Int) (l : List (Nat × KeyL)) : List (KeyL × ArcL) := l.flatMap fun x => prT lab x.2 (arcsQ m x.1)
theorem prT_snoc (lab : Int) (k : KeyL) (arcs : List ArcL) (t : Nat) (h : t < arcs.length) : prT lab k (arcs.take (t + 1)) = prT lab k (arcs.take t) ++ if (arcs[t].inn == lab) = true then [(k, arcs[t])] else [] := by
  unfold prT
  rw [List.take_succ_eq_append_getElem h, List.filter_append, List.map_append]
  congr 1
  by_cases e : (arcs[t].inn == lab) = true
  · rw [if_pos e, List.filter_cons_of_pos (by exact e)]; rfl
  · rw [if_neg e, List.filter_cons_of_neg (by exact e)]; rfl
theorem prA_snoc (m : MachL) (lab : Int) (l : List (Nat × KeyL)) (i : Nat) (h : i < l.length) : prA m lab (l.take (i + 1)) = prA m lab (l.take i) ++ prT lab l[i].2 (arcsQ m l[i].1) := by
  unfold prA
  rw [List.take_succ_eq_append_getElem h, List.flatMap_append]; simp
theorem jl_all {m : MachL} {L : TabK} (hq : ∀ q k, L q = some k → q < m.states.length) (lab : Int) (q : Nat) (k : KeyL) : JL (prA m lab (marksL L m.states.length)) q k ↔ JF m L lab q k := by
  unfold JL JF prA prT
  constructor
  · rintro ⟨x, hx, h1, h2⟩
    obtain ⟨y, hy, hx⟩ := List.mem_flatMap.1 hx
    obtain ⟨a, ha, rfl⟩ := List.mem_map.1 hx
    obtain ⟨ha, hi⟩ := List.mem_filter.1 ha
    unfold marksL at hy
    obtain ⟨p, hp, rfl⟩ := List.mem_map.1 hy
    have hs : (L p).isSome = true := by unfold hasL at hp; exact (List.mem_filter.1 hp).2
    obtain ⟨k0, hk0⟩ := Option.isSome_iff_exists.1 hs
    have hg : getK L p = k0 := by unfold getK; rw [hk0]; rfl
    simp only [hg] at h2 ⊢
    exact ⟨p, k0, a, hk0, ha, by simpa using hi, h1, h2⟩
  · rintro ⟨p, k0, a, hk0, ha, hi, h1, h2⟩
    have hg : getK L p = k0 := by unfold getK; rw [hk0]; rfl
    refine ⟨(k0, a), List.mem_flatMap.2 ⟨(p, k0), ?_, List.mem_map.2 ⟨a, List.mem_filter.2 ⟨ha, by simpa using hi⟩, rfl⟩⟩, h1, h2⟩
    unfold marksL
    refine List.mem_map.2 ⟨p, ?_, by rw [hg]⟩
    unfold hasL
    exact List.mem_filter.2 ⟨List.mem_range.2 (hq p k0 hk0), by rw [hk0]; rfl⟩
theorem bound_succ (n k : Nat) : boundS n (k + 1) = boundS n k + 1 + n := by unfold boundS; rw [Nat.add_mul]; omega
theorem feed_in {m : MachL} (hv : Valid m) {WW : Int} {AA : Nat} (hs : SmallS m WW AA) {x : List Int} {L N : TabK} {lab : Int} (h : StT m WW x L) (hN : ∀ q, MinK (JL (prA m lab (marksL L m.states.length)) q) (N q)) :
    ∀ q k, N q = some k → q < m.states.length ∧ GoodW k.out ∧ 0 ≤ k.c ∧ KB (boundS m.states.length x.length + 1) WW k := by
  intro q k hk
  have hj := (jl_all (fun q k hk => (h.tab.good hv hk).1) lab q k).1 ((hN q).1 k hk)
  obtain ⟨p, k0, a, hk0, ha, -, rfl, rfl⟩ := hj
  have hva := (arcsQ_ok hv ha).2
  obtain ⟨g1, g2, g3⟩ := h.tab.good hv hk0
  refine ⟨by have := hva.t0; have := hva.t1; omega, ext_good g2 hva.o0 hva.o1, ?_, (h.kb p k0 hk0).ext (hs.wts p a ha)⟩
  have := hva.w0
  show 0 ≤ k0.c + a.wt
  omega
theorem feed_st {m : MachL} (hv : Valid m) {WW : Int} {AA : Nat} (hs : SmallS m WW AA) {x : List Int} {L N L' : TabK} {lab : Int} (hl : lab ≠ 0) (h : StT m WW x L) (hN : ∀ q, MinK (JL (prA m lab (marksL L m.states.length)) q) (N q)) (hI : StInv m N ⟨L', []⟩ 0 []) : StT m WW (x ++ [lab]) L' := by
  have hJ : ∀ q, MinK (JF m L lab q) (N q) := fun q => (hN q).congr fun k => jl_all (fun q k hk => (h.tab.good hv hk).1) lab q k
  refine ⟨tab_feed hl h.tab fun q => ext_min hJ (hI.done rfl q), fun q k hk => ?_⟩
  have := simp_bound hv hs.w0 hs.wts (fun q k hq => ⟨(feed_in hv hs h hN q k hq).1, (feed_in hv hs h hN q k hq).2.2.2⟩) hI.simp hk
  rw [List.length_append, List.length_singleton, bound_succ]
  exact this
/-- the cells of marks -/
def mcells (l : List (Nat × KeyL)) (vs : List Value) : List Value := (l.zip vs).flatMap fun p => [.int .i64 (p.1.1 : Nat), .int .i64 p.1.2.c, p.2]
theorem mcells_len (l : List (Nat × KeyL)) (vs : List Value) (h : vs.length = l.length) : (mcells l vs).length = l.length * 3 := by
  unfold mcells
  induction l generalizing vs with
  | nil => simp
  | cons x l ih =>
    cases vs with
    | nil => simp at h
    | cons v vs =>
      rw [List.zip_cons_cons, List.flatMap_cons, List.length_append, ih vs (by simpa using h)]
      simp; omega
theorem mcells_at (l : List (Nat × KeyL)) (vs : List Value) (h : vs.length = l.length) (i : Nat) (hi : i < l.length) (j : Nat) (hj : j < 3) : (mcells l vs)[i * 3 + j]? = ([.int .i64 (l[i].1 : Nat), .int .i64 l[i].2.c, vs[i]] : List Value)[j]? := by
  have e := flatMap_at (fun p : (Nat × KeyL) × Value => ([.int .i64 (p.1.1 : Nat), .int .i64 p.1.2.c, p.2] : List Value)) 3 (fun _ => rfl) (l.zip vs) i (by simp; omega) j hj
  unfold mcells
  rw [e]
  simp
theorem mcells_snoc (l : List (Nat × KeyL)) (vs : List Value) (h : vs.length = l.length) (x : Nat × KeyL) (v : Value) : mcells (l ++ [x]) (vs ++ [v]) = mcells l vs ++ [.int .i64 (x.1 : Nat), .int .i64 x.2.c, v] := by
  unfold mcells
  rw [List.zip_append (by rw [h]), List.flatMap_append]; simp
/-- a row of copied marks -/
structure CpW (W : World) (g : Nat) (l : List (Nat × KeyL)) (rv : Value) (vs : List Value) : Prop where
  len : vs.length = l.length
  own : W.ownsRow (g + 1) 71 3 rv l.length (mcells l vs)
  outs : ∀ i (h : i < l.length) (h' : i < vs.length), ∃ A c, vs[i] = .slice A l[i].2.out.length c ∧ Rd W A l[i].2.out.length 1 (icells l[i].2.out) ∧ (l[i].2.out = [] ∨ ¬ (rv.ownBlock = some (blk A) ∨ blk A ≤ g))
theorem CpW.nil (W : World) (g : Nat) : CpW W g [] (.slice none 0 0) [] := ⟨rfl, World.ownsRow_nil _ _ _ _, fun i h => by simp at h⟩
theorem CpW.keep {W W' : World} {g : Nat} {l : List (Nat × KeyL)} {rv : Value} {vs : List Value} (h : CpW W g l rv vs) (hb : Below W.heap.size W W') : CpW W' g l rv vs :=
  ⟨h.len, own_below h.own hb (Nat.le_refl _), fun i hi hi' => by
    obtain ⟨A, c, h1, h2, h3⟩ := h.outs i hi hi'
    exact ⟨A, c, h1, h2.below hb rfl, h3⟩⟩
theorem CpW.marks {W : World} {g n c : Nat} {A : Option Addr} {l : List (Nat × KeyL)} {vs : List Value} (h : CpW W g l (.slice A n c) vs) : n = l.length ∧ MarksAt W (fun b => b ≤ g) A l := by
  have hn : n = l.length := by
    obtain ⟨A', c', hv, -, -⟩ := own_form h.own
    simp at hv; exact hv.2.1
  subst hn
  have r := Rd.of_own h.own
  refine ⟨rfl, r.rdy, ?_, fun i hi => ?_, fun i hi => ?_, fun i hi => ?_⟩
  · rcases h.own.2 with ⟨hv, h0⟩ | ⟨g', cap, cur, hv, hb, -⟩
    · left; exact List.eq_nil_of_length_eq_zero h0
    · right
      intro e
      simp only [Value.slice.injEq] at hv
      obtain ⟨rfl, -, -⟩ := hv
      simp only [blk_some] at e
      omega
  · exact r.at' ((mcells_at l vs h.len i hi 0 (by omega)).trans rfl)
  · exact r.at' ((mcells_at l vs h.len i hi 1 (by omega)).trans rfl)
  · obtain ⟨A', c', h1, h2, h3⟩ := h.outs i hi (by rw [h.len]; exact hi)
    exact ⟨A', c', r.at' ((mcells_at l vs h.len i hi 2 (by omega)).trans (by rw [← h1]; rfl)), h2, h3.imp id fun h e => h (.inr e)⟩
/-- a mark is copied -/
theorem CpW.app {W W' : World} {g : Nat} {l : List (Nat × KeyL)} {rv : Value} {vs : List Value} (h : CpW W g l rv vs) {x : Nat × KeyL} {A : Option Addr} {c g' cap : Nat} {cs : List Value} {n1 : Nat} (hr : Rd W A x.2.out.length 1 (icells x.2.out)) (hf : x.2.out = [] ∨ ¬ (rv.ownBlock = some (blk A) ∨ blk A ≤ g))
    (hcs : cs = mcells l vs ++ [.int .i64 (x.1 : Nat), .int .i64 x.2.c, .slice A x.2.out.length c]) (hn : n1 = l.length + 1) (ho : W'.ownsRow (g + 1) 71 3 (.slice (some ⟨g', 0, none⟩) n1 cap) n1 cs) (hg : W.grownBy W' rv.ownBlock) (hv : rv.ownBlock = some g' ∨ W.heap.size < g') :
    CpW (W'.setCell ⟨g, 1, none⟩ (.slice (some ⟨g', 0, none⟩) n1 cap)) g (l ++ [x]) (.slice (some ⟨g', 0, none⟩) n1 cap) (vs ++ [.slice A x.2.out.length c]) := by
  subst hcs; subst hn
  have hg1 := (ho.lt g' rfl).1
  have key : ∀ (B : Option Addr) (y : List Int), Rd W B y.length 1 (icells y) → (y = [] ∨ ¬ (rv.ownBlock = some (blk B) ∨ blk B ≤ g)) → Rd (W'.setCell ⟨g, 1, none⟩ (.slice (some ⟨g', 0, none⟩) (l.length + 1) cap)) B y.length 1 (icells y) ∧ (y = [] ∨ ¬ ((Value.slice (some ⟨g', 0, none⟩) (l.length + 1) cap).ownBlock = some (blk B) ∨ blk B ≤ g)) := fun B y h1 h2 => by
    by_cases hne : y = []
    · exact ⟨h1.moved fun e => absurd hne e, .inl hne⟩
    · have h3 := h2.resolve_left hne
      have h4 := (rd_lt h1 hne).1
      refine ⟨h1.moved fun _ => (Below.heap_setCell _ _ _ _ (fun e => h3 (.inr (by rw [e]; exact Nat.le_refl g)))).trans (hg.block _ h4 fun e => h3 (.inl e.symm)), .inr fun e => ?_⟩
      rcases e with e | e
      · have e2 : g' = blk B := Option.some.inj e
        subst e2
        rcases hv with hv | hv
        · exact h3 (.inl hv)
        · omega
      · exact h3 (.inr e)
  refine ⟨by simp [h.len], ?_, fun i hi hi' => ?_⟩
  · rw [mcells_snoc l vs h.len x, List.length_append, List.length_singleton]
    exact own_setCell ho (fun e => by have e2 : g' = g := Option.some.inj e; omega) _
  · rw [List.length_append, List.length_singleton] at hi
    by_cases hlt : i < l.length
    · obtain ⟨B, c2, h1, h2, h3⟩ := h.outs i hlt (by rw [h.len]; exact hlt)
      obtain ⟨k1, k2⟩ := key B _ h2 h3
      simp only [List.getElem_append_left hlt, List.getElem_append_left (show i < vs.length by rw [h.len]; exact hlt)]
      exact ⟨B, c2, h1, k1, k2⟩
    · obtain rfl : i = l.length := by omega
      obtain ⟨k1, k2⟩ := key A _ hr hf
      have e2 : (vs ++ [Value.slice A x.2.out.length c])[l.length]'hi' = .slice A x.2.out.length c := by
        rw [List.getElem_append_right (by rw [h.len]; omega)]; simp
      have e1 : (l ++ [x])[l.length]'(by simp) = x := by rw [List.getElem_append_right (by omega)]; simp
      rw [e2]
      simp only [e1]
      exact ⟨A, c, rfl, k1, k2⟩
end Go.Proofs.Ytikkmoleneioeaa
