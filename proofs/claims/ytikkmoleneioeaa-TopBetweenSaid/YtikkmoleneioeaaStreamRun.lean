/- stream.run: the marks of a table, in the order of their states. -/
import Derived.Test.YtikkmoleneioeaaStreamClose
namespace Go.Proofs.Ytikkmoleneioeaa
open Go.RowKit

theorem eltMark : Elt Try.prog 32 71 (.agg #[.int .i64 0, .int .i64 0, .slice none 0 0]) 3 40 := ⟨Try.underlying32, by kernel_rfl, rfl, by omega⟩
/-- the map's entries are these -/
structure TabL (w : World) (b : Nat) (L : TabK) (X : Nat → Prop) (lst : List (Int × Value)) : Prop where
  map : MapB w b intV id lst
  at' : ∀ q : Nat, MarkIn w q X (L q) (assoc lst (q : Int))
theorem TabX.entries {w : World} {b : Nat} {L : TabK} {X : Nat → Prop} (h : TabX w b L X) : ∃ lst, TabL w b L X lst := by
  obtain ⟨lst, h1, h2⟩ := h
  exact ⟨lst, h1, h2⟩
section
variable {w w' : World} {b : Nat} {L : TabK} {X X' : Nat → Prop} {lst : List (Int × Value)}
theorem TabL.moved (h : TabL w b L X lst) (hb : w'.heap[b]? = w.heap[b]?) (hk : ∀ g, g < w.heap.size → ¬ X g → CellsB w g → w'.heap[g]? = w.heap[g]?) (hX : ∀ g, g < w.heap.size → ¬ X g → ¬ X' g) : TabL w' b L X' lst :=
  ⟨h.map.kept hb, fun q => (h.at' q).moved hk hX⟩
theorem TabL.below (h : TabL w b L X lst) (hb : Below w.heap.size w w') : TabL w' b L X lst := h.moved (hb.block b h.map.lt) (fun g hg _ _ => hb.block g hg) fun _ _ h => h
theorem TabL.set (h : TabL w b L X lst) {a : Addr} (ha : a.block ≠ b) (v : Value) (hc : ∀ q k, L q = some k → ∀ A c, assoc lst (q : Int) = some (markV q k A c) → k.out = [] ∨ blk A ≠ a.block) : TabL (w.setCell a v) b L X lst := by
  refine ⟨h.map.kept (Below.heap_setCell _ _ _ _ (Ne.symm ha)), fun q => ?_⟩
  have hq := h.at' q
  cases hL : L q with
  | none => rw [hL] at hq; exact hq
  | some k =>
    rw [hL] at hq
    obtain ⟨A, c, h1, h2, h3⟩ := hq
    refine ⟨A, c, h1, h2.moved fun hne => ?_, h3⟩
    exact Below.heap_setCell _ _ _ _ ((hc q k hL A c h1).resolve_left hne)
end
/-- the cells of a mark in the map -/
def markC (lst : List (Int × Value)) (q : Nat) : List Value := match assoc lst (q : Int) with
  | some (.agg ⟨[x, y, z]⟩) => [x, y, z]
  | _ => []
theorem markC_of {lst : List (Int × Value)} {q : Nat} {k : KeyL} {A : Option Addr} {c : Nat} (h : assoc lst (q : Int) = some (markV q k A c)) : markC lst q = [.int .i64 (q : Int), .int .i64 k.c, .slice A k.out.length c] := by
  unfold markC; rw [h]
/-- marks by their states -/
def marksL (L : TabK) (n : Nat) : List (Nat × KeyL) := (hasL L n).map fun q => (q, getK L q)
/-- a slice of marks reads as l -/
structure MarksAt (w : World) (Z : Nat → Prop) (A : Option Addr) (l : List (Nat × KeyL)) : Prop where
  rdy : Rdy A l.length
  far : l = [] ∨ ¬ Z (blk A)
  c0 : ∀ i (h : i < l.length), w.cell? ⟨blk A, ofs A + i * 3, none⟩ = some (.int .i64 (l[i].1 : Nat))
  c1 : ∀ i (h : i < l.length), w.cell? ⟨blk A, ofs A + i * 3 + 1, none⟩ = some (.int .i64 l[i].2.c)
  c2 : ∀ i (h : i < l.length), ∃ A' c, w.cell? ⟨blk A, ofs A + i * 3 + 2, none⟩ = some (.slice A' l[i].2.out.length c) ∧ Rd w A' l[i].2.out.length 1 (icells l[i].2.out) ∧ (l[i].2.out = [] ∨ ¬ Z (blk A'))
theorem MarksAt.below {w w' : World} {Z : Nat → Prop} {A : Option Addr} {l : List (Nat × KeyL)} (h : MarksAt w Z A l) (hb : Below w.heap.size w w') : MarksAt w' Z A l :=
  ⟨h.rdy, h.far, fun i hi => cell_keep hb (Nat.le_refl _) (h.c0 i hi), fun i hi => cell_keep hb (Nat.le_refl _) (h.c1 i hi), fun i hi => by
    obtain ⟨A', c, h1, h2, h3⟩ := h.c2 i hi
    exact ⟨A', c, cell_keep hb (Nat.le_refl _) h1, h2.below hb rfl, h3⟩⟩
theorem MarksAt.other {w : World} {Z Z' : Nat → Prop} {A : Option Addr} {l : List (Nat × KeyL)} (h : MarksAt w Z A l) (hz : ∀ g, Z' g → Z g) : MarksAt w Z' A l :=
  ⟨h.rdy, h.far.imp id fun h e => h (hz _ e), h.c0, h.c1, fun i hi => by
    obtain ⟨A', c, h1, h2, h3⟩ := h.c2 i hi
    exact ⟨A', c, h1, h2, h3.imp id fun h e => h (hz _ e)⟩⟩
theorem MarksAt.set {w : World} {Z : Nat → Prop} {A : Option Addr} {l : List (Nat × KeyL)} (h : MarksAt w Z A l) {a : Addr} (ha : Z a.block) (u : Value) : MarksAt (w.setCell a u) Z A l := by
  have hne : ∀ i, i < l.length → blk A ≠ a.block := fun i hi e => by
    rcases h.far with h1 | h1
    · rw [h1] at hi; simp at hi
    · exact h1 (by rw [e]; exact ha)
  have hc : ∀ i, i < l.length → ∀ o v, w.cell? ⟨blk A, o, none⟩ = some v → (w.setCell a u).cell? ⟨blk A, o, none⟩ = some v := fun i hi o v hv => by
    unfold World.cell? at hv ⊢
    simp only at hv ⊢
    rw [Below.heap_setCell _ _ _ _ (hne i hi)]; exact hv
  refine ⟨h.rdy, h.far, fun i hi => hc i hi _ _ (h.c0 i hi), fun i hi => hc i hi _ _ (h.c1 i hi), fun i hi => ?_⟩
  obtain ⟨A', c, h1, h2, h3⟩ := h.c2 i hi
  exact ⟨A', c, hc i hi _ _ h1, h2.moved fun hn => Below.heap_setCell _ _ _ _ fun e => (h3.resolve_left hn) (by rw [e]; exact ha), h3⟩
/-- a run -/
def RunAt (w : World) (Z : Nat → Prop) (v : Value) (L : TabK) (n : Nat) (fed : Int) : Prop := ∃ A c, v = .agg #[.int .i64 fed, .slice A (marksL L n).length c] ∧ MarksAt w Z A (marksL L n)
theorem RunAt.below {w w' : World} {Z : Nat → Prop} {v : Value} {L : TabK} {n : Nat} {fed : Int} (h : RunAt w Z v L n fed) (hb : Below w.heap.size w w') : RunAt w' Z v L n fed := by
  obtain ⟨A, c, h1, h2⟩ := h
  exact ⟨A, c, h1, h2.below hb⟩
theorem RunAt.other {w : World} {Z Z' : Nat → Prop} {v : Value} {L : TabK} {n : Nat} {fed : Int} (h : RunAt w Z v L n fed) (hz : ∀ g, Z' g → Z g) : RunAt w Z' v L n fed := by
  obtain ⟨A, c, h1, h2⟩ := h
  exact ⟨A, c, h1, h2.other hz⟩
theorem RunAt.set {w : World} {Z : Nat → Prop} {v : Value} {L : TabK} {n : Nat} {fed : Int} (h : RunAt w Z v L n fed) {a : Addr} (ha : Z a.block) (u : Value) : RunAt (w.setCell a u) Z v L n fed := by
  obtain ⟨A, c, h1, h2⟩ := h
  exact ⟨A, c, h1, h2.set ha u⟩
theorem marks_of_row {w : World} {b : Nat} {L : TabK} {X Z : Nat → Prop} {lst : List (Int × Value)} {B n nn c : Nat} {A : Option Addr} (h : TabL w b L X lst) (ho : w.ownsRow B 71 3 (.slice A nn c) nn ((hasL L n).flatMap (markC lst))) (hZ : ∀ g, Z g → X g ∧ g < B) : nn = (marksL L n).length ∧ MarksAt w Z A (marksL L n) := by
  have hc3 : ∀ q ∈ hasL L n, ∃ A c, markC lst q = [.int .i64 (q : Int), .int .i64 (getK L q).c, .slice A (getK L q).out.length c] ∧ Rd w A (getK L q).out.length 1 (icells (getK L q).out) ∧ ((getK L q).out = [] ∨ ¬ Z (blk A)) := fun q hq => by
    have hs : (L q).isSome = true := by unfold hasL at hq; exact (List.mem_filter.1 hq).2
    obtain ⟨k, hk⟩ := Option.isSome_iff_exists.1 hs
    have hg : getK L q = k := by unfold getK; rw [hk]; rfl
    have := h.at' q
    rw [hk] at this
    obtain ⟨A, c, h1, h2, h3⟩ := this
    rw [hg]
    exact ⟨A, c, markC_of h1, h2, h3.imp id fun h e => h (hZ _ e).1⟩
  have r := Rd.of_own ho
  have hlen : ((hasL L n).flatMap (markC lst)).length = (hasL L n).length * 3 := by
    clear r ho
    generalize hasL L n = l at *
    induction l with
    | nil => rfl
    | cons q l ih =>
      obtain ⟨A, c, e, -⟩ := hc3 q (by simp)
      rw [List.flatMap_cons, List.length_append, ih fun x hx => hc3 x (by simp [hx]), e, List.length_cons]
      simp; omega
  have hn : nn = (hasL L n).length := by have := r.len; omega
  have hml : (marksL L n).length = (hasL L n).length := by simp [marksL]
  have q : ∀ i (hi : i < (hasL L n).length) (j : Nat) (hj : j < 3), ((hasL L n).flatMap (markC lst))[i * 3 + j]? = (markC lst ((hasL L n)[i]))[j]? := by
    intro i hi j hj
    have key : ∀ (l : List Nat), (∀ q ∈ l, (markC lst q).length = 3) → ∀ i (hi : i < l.length), (l.flatMap (markC lst))[i * 3 + j]? = (markC lst l[i])[j]? := by
      intro l
      induction l with
      | nil => intro _ i hi; simp at hi
      | cons x l ih =>
        intro hl i hi
        have hx := hl x (by simp)
        rw [List.flatMap_cons]
        cases i with
        | zero => rw [List.getElem?_append_left (by omega)]; simp
        | succ i =>
          rw [List.getElem?_append_right (by omega), hx, show (i + 1) * 3 + j - 3 = i * 3 + j by omega]
          exact ih (fun q hq => hl q (by simp [hq])) i (by simpa using hi)
    exact key _ (fun q hq => by obtain ⟨A, c, e, -⟩ := hc3 q hq; rw [e]; rfl) i hi
  refine ⟨by rw [hml]; exact hn, ?_, ?_, fun i hi => ?_, fun i hi => ?_, fun i hi => ?_⟩
  · rw [hml, ← hn]; exact r.rdy
  · rcases ho.2 with ⟨hv, h0⟩ | ⟨g, cap, cur, hv, hb, -⟩
    · left; exact List.eq_nil_of_length_eq_zero (by omega)
    · right
      intro e
      have h1 := (hZ _ e).2
      simp only [Value.slice.injEq] at hv
      obtain ⟨rfl, -, -⟩ := hv
      simp only [blk_some] at h1
      omega
  all_goals
    have hi' : i < (hasL L n).length := by omega
    obtain ⟨A', c', e, hr⟩ := hc3 _ (List.getElem_mem hi')
    have e1 : (marksL L n)[i] = ((hasL L n)[i], getK L (hasL L n)[i]) := by simp [marksL]
    rw [e1]
  · exact r.at' ((q i hi' 0 (by omega)).trans (by rw [e]; rfl))
  · exact r.at' ((q i hi' 1 (by omega)).trans (by rw [e]; rfl))
  · exact ⟨A', c', r.at' ((q i hi' 2 (by omega)).trans (by rw [e]; rfl)), hr⟩
/-- the memory of run, behind close -/
structure RunW (w : World) (Z : Nat → Prop) (b g8 : Nat) (st : Int) (A : Option Addr) (n c : Nat) (L : TabK) (lst : List (Int × Value)) (fed : Int) (W : World) (k : Nat) (rv : Value) : Prop where
  mb : Blk W w.heap.size #[.int .i64 st, .slice A n c] 28
  rb : Blk W (w.heap.size + 1) #[.int .i64 0, .slice none 0 0] 34
  xb : Blk W g8 #[.int .i64 fed, rv] 34
  tab : TabL W b L (fun g => rv.ownBlock = some g ∨ g = w.heap.size ∨ g = w.heap.size + 1 ∨ g = g8 ∨ Z g) lst
  own : W.ownsRow (g8 + 1) 71 3 rv (hasL L k).length ((hasL L k).flatMap (markC lst))
  gr : w.grownBy W (some b)
section
variable {w W W' : World} {Z : Nat → Prop} {b g8 : Nat} {st : Int} {A : Option Addr} {n c : Nat} {L : TabK} {lst : List (Int × Value)} {fed : Int} {k : Nat} {rv : Value}
theorem RunW.keep (h : RunW w Z b g8 st A n c L lst fed W k rv) (hb : Below W.heap.size W W') : RunW w Z b g8 st A n c L lst fed W' k rv :=
  ⟨h.mb.step hb, h.rb.step hb, h.xb.step hb, h.tab.below hb, own_below h.own hb (Nat.le_refl _), grown_bel h.gr hb⟩
theorem RunW.ne (h : RunW w Z b g8 st A n c L lst fed W k rv) {x : Nat} (hx : x < g8 + 1) : some x ≠ rv.ownBlock := fun e => by have := (h.own.lt x e.symm).1; omega
theorem RunW.app (h : RunW w Z b g8 st A n c L lst fed W k rv) (hb : b < w.heap.size) (h8 : w.heap.size + 1 < g8) {g cap m : Nat} {cs : List Value} (hc : cs = (hasL L (k + 1)).flatMap (markC lst)) (hm : m = (hasL L (k + 1)).length)
    (ho : W'.ownsRow (g8 + 1) 71 3 (.slice (some ⟨g, 0, none⟩) m cap) m cs) (hg : W.grownBy W' rv.ownBlock) (hv : rv.ownBlock = some g ∨ W.heap.size < g) :
    RunW w Z b g8 st A n c L lst fed (W'.setCell ⟨g8, 1, none⟩ (.slice (some ⟨g, 0, none⟩) m cap)) (k + 1) (.slice (some ⟨g, 0, none⟩) m cap) := by
  subst hc; subst hm
  have h8' : ∀ x, x < g8 → x ≠ (⟨g8, 1, none⟩ : Addr).block := fun x hx e => by simp only at e; omega
  have hob : (Value.slice (some ⟨g, 0, none⟩) (hasL L (k + 1)).length cap).ownBlock = some g := rfl
  have hg1 := (ho.lt g rfl).1
  have hg2 : ∀ x, rv.ownBlock = some x → w.heap.size ≤ x := fun x hx => by have := (h.own.lt x hx).1; omega
  have ht : TabL W' b L (fun x => (Value.slice (some ⟨g, 0, none⟩) (hasL L (k + 1)).length cap).ownBlock = some x ∨ x = w.heap.size ∨ x = w.heap.size + 1 ∨ x = g8 ∨ Z x) lst := by
    refine h.tab.moved (hg.block b h.tab.map.lt (h.ne (by omega))) (fun x hl hX _ => hg.block x hl fun e => hX (.inl e.symm)) fun x hl hX e => ?_
    rcases e with e | e
    · rw [hob] at e
      cases e
      rcases hv with hv | hv
      · exact hX (.inl hv)
      · omega
    · exact hX (.inr e)
  refine ⟨(h.mb.grown hg (h.ne (by omega))).far (by simp only; omega) _, (h.rb.grown hg (h.ne (by omega))).far (by simp only; omega) _, (h.xb.grown hg (h.ne (by omega))).put 1 _, ?_, own_setCell ho (by rw [hob]; simp only [ne_eq, Option.some.injEq]; omega) _, ?_⟩
  · refine ht.set (by simp only; omega) _ fun q k1 hq A1 c1 he => ?_
    have hq2 := ht.at' q
    rw [hq] at hq2
    obtain ⟨A2, c2, e2, -, e3⟩ := hq2
    rw [he] at e2
    simp only [Option.some.injEq, markV, Value.agg.injEq, Array.mk.injEq, List.cons.injEq, Value.slice.injEq] at e2
    obtain ⟨-, -, ⟨rfl, -, -⟩, -⟩ := e2
    exact e3.imp id fun h3 e4 => h3 (.inr (.inr (.inr (.inl e4))))
  · have h1 := grown_rows h.gr hg hg2
    exact grown_rows h1 (row' := some g8) ⟨rfl, rfl, rfl, by simp [World.setCell], fun x _ hne => Below.heap_setCell _ _ _ _ (fun e => hne (by rw [e]))⟩ (fun x e => by cases e; omega)
end
/-- a run that is closed -/
def RunO (m : MachL) (L0 : TabK) (fed : Int) (Z : Nat → Prop) (w : World) (rv : Value) : Prop := ∃ L' : TabK, RunAt w Z rv L' m.states.length fed ∧ StInv m L0 ⟨L', []⟩ 0 []
set_option maxRecDepth 100000 in
set_option maxHeartbeats 8000000 in
theorem run_any (w : World) (Z : Nat → Prop) (hZ : ∀ g, Z g → g < w.heap.size) (b : Nat) (L0 : TabK) (v : Value) (m : MachL) (B : Nat) (WW : Int) (AA : Nat) (fed : Int) (hT : TabX w b L0 Z) (hm : MachAt w v m) (hv : Valid m) (hA : ∀ q, (arcsQ m q).length ≤ AA) (hw : ∀ q, ∀ a ∈ arcsQ m q, a.wt ≤ WW) (h0 : 0 ≤ WW)
    (hI : ∀ q k, L0 q = some k → q < m.states.length ∧ GoodW k.out ∧ 0 ≤ k.c ∧ KB B WW k) (hbd : B + m.states.length ≤ 10000) (hbw : ((B + m.states.length : Nat) : Int) * WW ≤ 1000000000) (hN : m.states.length + m.states.length * geo AA (m.states.length - 1) ≤ 100000) :
    Calls Try.prog 26 #[.map (some b), v, .int .i64 fed] w fun e w' => ∃ rv, e = .returned (.tuple #[rv, .int .i64 0]) ∧ RunO m L0 fed Z w' rv ∧ w.grownBy w' (some b) := by
  have hbl := hT.lt
  have hnc := hT.notCells
  have hsz := hv.size
  have HSB := Lib.hid (fun (L : TabK) (hs : SimpK m L0 L) (q : Nat) (k : KeyL) => simp_bound hv h0 hw (fun q k hk => ⟨(hI q k hk).1, (hI q k hk).2.2.2⟩) hs (q := q) (k := k))
  have CL := Lib.hid (fun W (hb : Below w.heap.size w W) (hs : W.heap.size = w.heap.size + 2) => close_any W (fun g => g = w.heap.size ∨ g = w.heap.size + 1 ∨ Z g) (fun g e => by rcases e with e | e | e <;> first | omega | (have := hZ g e; omega)) b L0 v m B WW AA (hT.moved (hb.block b hbl) (fun g hg _ _ => hb.block g hg) (fun g hl hX e => by rcases e with e | e | e <;> first | omega | exact hX e)) (hm.below hb) hv hA hw h0 hI hbd (by omega) hN)
  obtain ⟨A, c, rfl, hS⟩ := hm
  have rd := hS.rdy
  have HV := Lib.hid hv
  have HZZ := Lib.hid hZ
  have HH0 := Lib.hid (show ∀ L : TabK, hasL L 0 = [] from fun _ => rfl)
  have B1 : Below w.heap.size w ((w.alloc (.cells #[.int .i64 m.start, .slice A m.states.length c] 28)).alloc (.cells #[.int .i64 0, .slice none 0 0] 34)) := (by repeat' (first | exact Below.refl _ _ | assumption | refine Below.drew ?_ | refine Below.alloc ?_ (by first | omega | (simp; done) | (simp; omega)) _ | refine Below.setCell ?_ (by first | omega | (simp; done) | (simp; omega)) _))
  have P0 : Blk ((w.alloc (.cells #[.int .i64 m.start, .slice A m.states.length c] 28)).alloc (.cells #[.int .i64 0, .slice none 0 0] 34)) w.heap.size #[.int .i64 m.start, .slice A m.states.length c] 28 := (Blk.new _ _ _).alloc _
  have P1 : Blk ((w.alloc (.cells #[.int .i64 m.start, .slice A m.states.length c] 28)).alloc (.cells #[.int .i64 0, .slice none 0 0] 34)) (w.heap.size + 1) #[.int .i64 0, .slice none 0 0] 34 := Blk.new' (by simp)
  have hsz2 : ((w.alloc (.cells #[.int .i64 m.start, .slice A m.states.length c] 28)).alloc (.cells #[.int .i64 0, .slice none 0 0] 34)).heap.size = w.heap.size + 2 := by simp
  clear hT hI hS hv hA hw hnc hbd hN hZ
  go_enter Try.func26, Try.ntmps26
  go_wp2_with fail
  generalize (w.alloc (.cells #[.int .i64 m.start, .slice A m.states.length c] 28)).alloc (.cells #[.int .i64 0, .slice none 0 0] 34) = w2 at *
  refine (CL.out w2 B1 hsz2).mono ?_; rintro e w3 ⟨rfl, L, ht, hI, hg⟩
  obtain ⟨lst, htl⟩ := ht.entries
  have hLT : ∀ q k A1 c1, L q = some k → assoc lst (q : Int) = some (markV q k A1 c1) → k.out = [] ∨ blk A1 < w3.heap.size := fun q k A1 c1 hq he => by
    have h1 := htl.at' q
    rw [hq] at h1
    obtain ⟨A2, c2, e2, hr, -⟩ := h1
    rw [he] at e2
    simp only [Option.some.injEq, markV, Value.agg.injEq, Array.mk.injEq, List.cons.injEq, Value.slice.injEq] at e2
    obtain ⟨-, -, ⟨rfl, -, -⟩, -⟩ := e2
    by_cases hne : k.out = []
    · exact .inl hne
    · exact .inr (rd_lt hr hne).1
  have hg3 := hg.size
  have hR0 : RunW w Z b w3.heap.size m.start A m.states.length c L lst fed (w3.alloc (.cells #[.int .i64 fed, .slice none 0 0] 34)) 0 (.slice none 0 0) := by
    refine ⟨(P0.grown hg (by simp; omega)).alloc _, (P1.grown hg (by simp; omega)).alloc _, Blk.new _ _ _, ?_, ?_, grown_bel (grown_after B1 hg) ((Below.refl _ _).alloc (Nat.le_refl _) _)⟩
    · refine htl.moved (heap_alloc_old _ _ htl.map.lt) (fun g hg _ _ => heap_alloc_old _ _ hg) fun g hl hX e => ?_
      rcases e with e | e | e | e | e
      · simp [Value.ownBlock] at e
      · exact hX (.inl e)
      · exact hX (.inr (.inl e))
      · omega
      · exact hX (.inr (.inr e))
    · rw [HH0.out]; exact World.ownsRow_nil _ _ _ _
  have HR0 := Lib.hid hR0
  have HHS := Lib.hid (hasL_succ L); have HHL := Lib.hid (hasL_len L)
  have HI := Lib.hid hI
  have hb8 : w.heap.size + 1 < w3.heap.size := by omega
  have HBD := Lib.hid (fun q k (hq : L q = some k) => HSB.out L hI.simp q k hq)
  have hg8 : (w3.alloc (.cells #[.int .i64 fed, .slice none 0 0] 34)).heap.size = w3.heap.size + 1 := by simp
  have z1 := hR0.mb.cell; have zl := hR0.mb.lt
  clear hR0 ht htl hLT hg hI P0 P1 B1 CL
  go_wp2_with fail
  generalize w3.heap.size = g8 at *
  generalize w3.alloc (.cells #[.int .i64 fed, .slice none 0 0] 34) = w4 at *
  go_loopw [20] (fun iv W => ∃ (k : Nat) (rv : Value), k ≤ m.states.length ∧ iv = .int .i64 k ∧ RunW w Z b g8 m.start A m.states.length c L lst fed W k rv) (fun iv _ => m.states.length - (intOf iv).toNat)
  case atStart => exact ⟨0, _, by omega, rfl, HR0.out⟩
  case round =>
    obtain ⟨k, rv, hk, rfl, hR⟩ := hrel
    have HR := Lib.hid hR
    have i0 : (0 : Int) ≤ ↑k := by omega
    by_cases hlt : k < m.states.length
    · have i1 : (↑k : Int) < ↑m.states.length := by omega
      have hat := hR.tab.at' k
      have hsl := HHL.out k
      obtain ⟨wo, rfl⟩ : ∃ wo : World, wo = wr := ⟨_, rfl⟩
      cases hL : L k with
      | none =>
        rw [hL] at hat
        have hlk := look_none hR.tab.map hat
        have hs : hasL L (k + 1) = hasL L k := by rw [HHS.out, hL]; simp
        have HSS := Lib.hid hs
        clear hR hat hs hL
        go_wp2_with fail
        go_roundw
        case rel =>
          have h1 := HR.out.keep ((Below.refl _ _).alloc (Nat.le_refl _) (.cells #[.int .i64 0, .int .i64 0, .slice none 0 0] 71))
          exact ⟨k + 1, rv, by omega, by go_num, ⟨h1.mb, h1.rb, h1.xb, h1.tab, by rw [HSS.out]; exact h1.own, h1.gr⟩⟩
        case measure => simp [intOf]; omega
      | some k0 =>
        rw [hL] at hat
        obtain ⟨A1, c1, ha, -, -⟩ := hat
        have hlk := look_some hR.tab.map ha
        have hs : hasL L (k + 1) = hasL L k ++ [k] := by rw [HHS.out, hL]; simp
        have hcs : (hasL L (k + 1)).flatMap (markC lst) = (hasL L k).flatMap (markC lst) ++ [.int .i64 (k : Int), .int .i64 k0.c, .slice A1 k0.out.length c1] := by
          rw [hs, List.flatMap_append, List.flatMap_cons, markC_of ha]; simp
        have hln : (hasL L (k + 1)).length = (hasL L k).length + 1 := by rw [hs]; simp
        have hkb := HBD.out k k0 hL
        have hw9 : ¬ (1000000000 : Int) < k0.c := by have := hkb.2; omega
        have HCS := Lib.hid hcs; have HLN := Lib.hid hln
        obtain ⟨kc, ko⟩ := k0
        simp only [markV] at hlk
        simp only at hw9 HCS
        obtain ⟨rA, rc, rfl, -, -⟩ := own_form hR.own
        clear hR ha hs hcs hln hL hkb
        have HRb := Lib.hid (HR.out.keep ((Below.refl _ _).alloc (Nat.le_refl _) (.cells #[.int .i64 (k : Int), .int .i64 kc, .slice A1 ko.length c1] 71)))
        have x1 := HRb.out.xb.cell 1; have x2 := HRb.out.xb.froz; have x3 := HRb.out.xb.lt
        simp only [List.getElem?_toArray, List.getElem?_cons_succ, List.getElem?_cons_zero] at x1
        have hll : (hasL L k).length + 1 ≤ 1000000 := by omega
        have HOW := Lib.hid HRb.out.own
        generalize (hasL L k).length = nl at *
        go_wp2_with (at_builtin; go_loud (refine wpList_app1 rfl _ _ rfl eltMark (g8 + 1) (.slice rA nl rc) nl _ rfl (wo.alloc (.cells #[.int .i64 (k : Int), .int .i64 kc, .slice A1 ko.length c1] 71)) HOW.out #[.int .i64 (k : Int), .int .i64 kc, .slice A1 ko.length c1] rfl (wo.heap.size + 1) (by simp) rfl rfl (by simp [Value.oneCell']) hll (by omega) (by omega) ?_; intro g cap w8 ho8 hg8' hb8' hl8; have HR8 := Lib.hid (HRb.out.app hbl hb8 HCS.out.symm HLN.out.symm ho8 hg8' hb8'); have y := HRb.out.xb.grown hg8' (HRb.out.ne (by omega)); have y1 := y.cell 1; have y2 := y.froz; have y3 := y.lt; clear ho8 hg8' hb8' y))
        go_roundw
        case rel => exact ⟨k + 1, _, by omega, by go_num, HR8.out⟩
        case measure => simp [intOf]; omega
    · obtain rfl : k = m.states.length := by omega
      have i1 : ¬ (↑m.states.length : Int) < ↑m.states.length := by omega
      obtain ⟨rA, rc, rfl, -, -⟩ := own_form hR.own
      have x1 := hR.xb.cell 0; have x2 := hR.xb.cell 1; have x3 := hR.xb.lt
      have r1 := hR.rb.froz; have r2 := hR.rb.lt; have r3 := hR.rb.cell 0; have r4 := hR.rb.cell 1
      simp only [List.getElem?_toArray, List.getElem?_cons_succ, List.getElem?_cons_zero] at x1 x2 r3 r4
      have hfin : RunAt ((wr.setCell ⟨w.heap.size + 1, 0, none⟩ (.int .i64 fed)).setCell ⟨w.heap.size + 1, 1, none⟩ (.slice rA (hasL L m.states.length).length rc)) Z (.agg #[.int .i64 fed, .slice rA (hasL L m.states.length).length rc]) L m.states.length fed ∧ w.grownBy ((wr.setCell ⟨w.heap.size + 1, 0, none⟩ (.int .i64 fed)).setCell ⟨w.heap.size + 1, 1, none⟩ (.slice rA (hasL L m.states.length).length rc)) (some b) := by
        have hset : ∀ (W : World) (o : Nat) (u : Value), TabL W b L (fun g => (Value.slice rA (hasL L m.states.length).length rc).ownBlock = some g ∨ g = w.heap.size ∨ g = w.heap.size + 1 ∨ g = g8 ∨ Z g) lst → TabL (W.setCell ⟨w.heap.size + 1, o, none⟩ u) b L (fun g => (Value.slice rA (hasL L m.states.length).length rc).ownBlock = some g ∨ g = w.heap.size ∨ g = w.heap.size + 1 ∨ g = g8 ∨ Z g) lst := fun W o u ht => by
          refine ht.set (by simp only; omega) _ fun q k1 hq A1 c1 he => ?_
          have hq2 := ht.at' q
          rw [hq] at hq2
          obtain ⟨A2, c2, e2, -, e3⟩ := hq2
          rw [he] at e2
          simp only [Option.some.injEq, markV, Value.agg.injEq, Array.mk.injEq, List.cons.injEq, Value.slice.injEq] at e2
          obtain ⟨-, -, ⟨rfl, -, -⟩, -⟩ := e2
          exact e3.imp id fun h3 e4 => h3 (.inr (.inr (.inl e4)))
        have hne : (Value.slice rA (hasL L m.states.length).length rc).ownBlock ≠ some (w.heap.size + 1) := fun e => by have := (hR.own.lt _ e).1; omega
        obtain ⟨h1, h2⟩ := marks_of_row (hset _ 1 (.slice rA (hasL L m.states.length).length rc) (hset _ 0 (.int .i64 fed) hR.tab)) (own_setCell (own_setCell hR.own hne _) hne _) (Z := Z) (fun g e => ⟨.inr (.inr (.inr (.inr e))), by have := HZZ.out g e; omega⟩)
        refine ⟨⟨rA, rc, by rw [← h1], h2⟩, ?_⟩
        have hrow : ∀ (W : World) (o : Nat) (u : Value), w.grownBy W (some b) → w.grownBy (W.setCell ⟨w.heap.size + 1, o, none⟩ u) (some b) := fun W o u h => grown_rows h (row' := some (w.heap.size + 1)) ⟨rfl, rfl, rfl, by simp [World.setCell], fun x _ hne => Below.heap_setCell _ _ _ _ (fun e => hne (by rw [e]))⟩ (fun x e => by cases e; omega)
        exact hrow _ _ _ (hrow _ _ _ hR.gr)
      have HF := Lib.hid hfin
      clear hR hfin
      generalize (hasL L m.states.length).length = nl at *
      go_wp2_with fail
      refine bodyPost_ret (v := .tuple #[.agg #[.int .i64 fed, .slice rA nl rc], .int .i64 0]) (by simp [results, Try.results26, go_sem, *]) rfl ⟨_, rfl, ⟨L, HF.out.1, HI.out⟩, HF.out.2⟩
end Go.Proofs.Ytikkmoleneioeaa
