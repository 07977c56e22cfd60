/- stream.Feed (plain): what a label leads to; marks copied. -/
import Derived.Test.YtikkmoleneioeaaStreamBegin
namespace Go.Proofs.Ytikkmoleneioeaa
open Go.RowKit

/-- marks along arcs -/
def JL (pr : List (KeyL × ArcL)) (q : Nat) (k : KeyL) : Prop := ∃ x ∈ pr, q = x.2.to.toNat ∧ k = extK x.1 x.2
theorem jl_nil (q : Nat) : MinK (JL [] q) none := ⟨fun k hk => by simp at hk, fun k ⟨x, hx, _⟩ => by cases hx⟩
theorem jl_snoc {pr : List (KeyL × ArcL)} {N : TabK} (h : ∀ q, MinK (JL pr q) (N q)) (k : KeyL) (a : ArcL) (q : Nat) : MinK (JL (pr ++ [(k, a)]) q) (putK N a.to.toNat (extK k a) q) := by
  refine (put_min h a.to.toNat (extK k a) q).congr fun k' => ?_
  unfold JL
  constructor
  · rintro (⟨x, hx, h1⟩ | ⟨h1, h2⟩)
    · exact ⟨x, by simp [hx], h1⟩
    · exact ⟨(k, a), by simp, h1, h2⟩
  · rintro ⟨x, hx, h1⟩
    rcases List.mem_append.1 hx with hx | hx
    · exact .inl ⟨x, hx, h1⟩
    · rw [List.mem_singleton.1 hx] at h1
      exact .inr h1
def prT (lab : Int) (k : KeyL) (arcs : List ArcL) : List (KeyL × ArcL) := (arcs.filter fun a => a.inn == lab).map fun a => (k, a)
def prA (m : MachL) (lab : Int) (l : List (Nat × KeyL)) : List (KeyL × ArcL) := l.flatMap fun x => prT lab x.2 (arcsQ m x.1)
theorem prT_snoc (lab : Int) (k : KeyL) (arcs : List ArcL) (t : Nat) (h : t < arcs.length) : prT lab k (arcs.take (t + 1)) = prT lab k (arcs.take t) ++ if (arcs[t].inn == lab) = true then [(k, arcs[t])] else [] := by
  unfold prT
  rw [List.take_succ_eq_append_getElem h, List.filter_append, List.map_append]
  congr 1
  by_cases e : (arcs[t].inn == lab) = true
  · rw [if_pos e, List.filter_cons_of_pos (by exact e)]; rfl
  · rw [if_neg e, List.filter_cons_of_neg (by exact e)]; rfl
theorem prA_snoc (m : MachL) (lab : Int) (l : List (Nat × KeyL)) (i : Nat) (h : i < l.length) : prA m lab (l.take (i + 1)) = prA m lab (l.take i) ++ prT lab l[i].2 (arcsQ m l[i].1) := by
  unfold prA
  rw [List.take_succ_eq_append_getElem h, List.flatMap_append]; simp
theorem jl_all {m : MachL} {L : TabK} (hq : ∀ q k, L q = some k → q < m.states.length) (lab : Int) (q : Nat) (k : KeyL) : JL (prA m lab (marksL L m.states.length)) q k ↔ JF m L lab q k := by
  unfold JL JF prA prT
  constructor
  · rintro ⟨x, hx, h1, h2⟩
    obtain ⟨y, hy, hx⟩ := List.mem_flatMap.1 hx
    obtain ⟨a, ha, rfl⟩ := List.mem_map.1 hx
    obtain ⟨ha, hi⟩ := List.mem_filter.1 ha
    unfold marksL at hy
    obtain ⟨p, hp, rfl⟩ := List.mem_map.1 hy
    have hs : (L p).isSome = true := by unfold hasL at hp; exact (List.mem_filter.1 hp).2
    obtain ⟨k0, hk0⟩ := Option.isSome_iff_exists.1 hs
    have hg : getK L p = k0 := by unfold getK; rw [hk0]; rfl
    simp only [hg] at h2 ⊢
    exact ⟨p, k0, a, hk0, ha, by simpa using hi, h1, h2⟩
  · rintro ⟨p, k0, a, hk0, ha, hi, h1, h2⟩
    have hg : getK L p = k0 := by unfold getK; rw [hk0]; rfl
    refine ⟨(k0, a), List.mem_flatMap.2 ⟨(p, k0), ?_, List.mem_map.2 ⟨a, List.mem_filter.2 ⟨ha, by simpa using hi⟩, rfl⟩⟩, h1, h2⟩
    unfold marksL
    refine List.mem_map.2 ⟨p, ?_, by rw [hg]⟩
    unfold hasL
    exact List.mem_filter.2 ⟨List.mem_range.2 (hq p k0 hk0), by rw [hk0]; rfl⟩
theorem bound_succ (n k : Nat) : boundS n (k + 1) = boundS n k + 1 + n := by unfold boundS; rw [Nat.add_mul]; omega
theorem feed_in {m : MachL} (hv : Valid m) {WW : Int} {AA : Nat} (hs : SmallS m WW AA) {x : List Int} {L N : TabK} {lab : Int} (h : StT m WW x L) (hN : ∀ q, MinK (JL (prA m lab (marksL L m.states.length)) q) (N q)) :
    ∀ q k, N q = some k → q < m.states.length ∧ GoodW k.out ∧ 0 ≤ k.c ∧ KB (boundS m.states.length x.length + 1) WW k := by
  intro q k hk
  have hj := (jl_all (fun q k hk => (h.tab.good hv hk).1) lab q k).1 ((hN q).1 k hk)
  obtain ⟨p, k0, a, hk0, ha, -, rfl, rfl⟩ := hj
  have hva := (arcsQ_ok hv ha).2
  obtain ⟨g1, g2, g3⟩ := h.tab.good hv hk0
  refine ⟨by have := hva.t0; have := hva.t1; omega, ext_good g2 hva.o0 hva.o1, ?_, (h.kb p k0 hk0).ext (hs.wts p a ha)⟩
  have := hva.w0
  show 0 ≤ k0.c + a.wt
  omega
theorem feed_st {m : MachL} (hv : Valid m) {WW : Int} {AA : Nat} (hs : SmallS m WW AA) {x : List Int} {L N L' : TabK} {lab : Int} (hl : lab ≠ 0) (h : StT m WW x L) (hN : ∀ q, MinK (JL (prA m lab (marksL L m.states.length)) q) (N q)) (hI : StInv m N ⟨L', []⟩ 0 []) : StT m WW (x ++ [lab]) L' := by
  have hJ : ∀ q, MinK (JF m L lab q) (N q) := fun q => (hN q).congr fun k => jl_all (fun q k hk => (h.tab.good hv hk).1) lab q k
  refine ⟨tab_feed hl h.tab fun q => ext_min hJ (hI.done rfl q), fun q k hk => ?_⟩
  have := simp_bound hv hs.w0 hs.wts (fun q k hq => ⟨(feed_in hv hs h hN q k hq).1, (feed_in hv hs h hN q k hq).2.2.2⟩) hI.simp hk
  rw [List.length_append, List.length_singleton, bound_succ]
  exact this
/-- the cells of marks -/
def mcells (l : List (Nat × KeyL)) (vs : List Value) : List Value := (l.zip vs).flatMap fun p => [.int .i64 (p.1.1 : Nat), .int .i64 p.1.2.c, p.2]
theorem mcells_len (l : List (Nat × KeyL)) (vs : List Value) (h : vs.length = l.length) : (mcells l vs).length = l.length * 3 := by
  unfold mcells
  induction l generalizing vs with
  | nil => simp
  | cons x l ih =>
    cases vs with
    | nil => simp at h
    | cons v vs =>
      rw [List.zip_cons_cons, List.flatMap_cons, List.length_append, ih vs (by simpa using h)]
      simp; omega
theorem mcells_at (l : List (Nat × KeyL)) (vs : List Value) (h : vs.length = l.length) (i : Nat) (hi : i < l.length) (j : Nat) (hj : j < 3) : (mcells l vs)[i * 3 + j]? = ([.int .i64 (l[i].1 : Nat), .int .i64 l[i].2.c, vs[i]] : List Value)[j]? := by
  have e := flatMap_at (fun p : (Nat × KeyL) × Value => ([.int .i64 (p.1.1 : Nat), .int .i64 p.1.2.c, p.2] : List Value)) 3 (fun _ => rfl) (l.zip vs) i (by simp; omega) j hj
  unfold mcells
  rw [e]
  simp
theorem mcells_snoc (l : List (Nat × KeyL)) (vs : List Value) (h : vs.length = l.length) (x : Nat × KeyL) (v : Value) : mcells (l ++ [x]) (vs ++ [v]) = mcells l vs ++ [.int .i64 (x.1 : Nat), .int .i64 x.2.c, v] := by
  unfold mcells
  rw [List.zip_append (by rw [h]), List.flatMap_append]; simp
/-- a row of copied marks -/
structure CpW (W : World) (g : Nat) (l : List (Nat × KeyL)) (rv : Value) (vs : List Value) : Prop where
  len : vs.length = l.length
  own : W.ownsRow (g + 1) 71 3 rv l.length (mcells l vs)
  outs : ∀ i (h : i < l.length) (h' : i < vs.length), ∃ A c, vs[i] = .slice A l[i].2.out.length c ∧ Rd W A l[i].2.out.length 1 (icells l[i].2.out) ∧ (l[i].2.out = [] ∨ ¬ (rv.ownBlock = some (blk A) ∨ blk A ≤ g))
theorem CpW.nil (W : World) (g : Nat) : CpW W g [] (.slice none 0 0) [] := ⟨rfl, World.ownsRow_nil _ _ _ _, fun i h => by simp at h⟩
theorem CpW.keep {W W' : World} {g : Nat} {l : List (Nat × KeyL)} {rv : Value} {vs : List Value} (h : CpW W g l rv vs) (hb : Below W.heap.size W W') : CpW W' g l rv vs :=
  ⟨h.len, own_below h.own hb (Nat.le_refl _), fun i hi hi' => by
    obtain ⟨A, c, h1, h2, h3⟩ := h.outs i hi hi'
    exact ⟨A, c, h1, h2.below hb rfl, h3⟩⟩
theorem CpW.marks {W : World} {g n c : Nat} {A : Option Addr} {l : List (Nat × KeyL)} {vs : List Value} (h : CpW W g l (.slice A n c) vs) : n = l.length ∧ MarksAt W (fun b => b ≤ g) A l := by
  have hn : n = l.length := by
    obtain ⟨A', c', hv, -, -⟩ := own_form h.own
    simp at hv; exact hv.2.1
  subst hn
  have r := Rd.of_own h.own
  refine ⟨rfl, r.rdy, ?_, fun i hi => ?_, fun i hi => ?_, fun i hi => ?_⟩
  · rcases h.own.2 with ⟨hv, h0⟩ | ⟨g', cap, cur, hv, hb, -⟩
    · left; exact List.eq_nil_of_length_eq_zero h0
    · right
      intro e
      simp only [Value.slice.injEq] at hv
      obtain ⟨rfl, -, -⟩ := hv
      simp only [blk_some] at e
      omega
  · exact r.at' ((mcells_at l vs h.len i hi 0 (by omega)).trans rfl)
  · exact r.at' ((mcells_at l vs h.len i hi 1 (by omega)).trans rfl)
  · obtain ⟨A', c', h1, h2, h3⟩ := h.outs i hi (by rw [h.len]; exact hi)
    exact ⟨A', c', r.at' ((mcells_at l vs h.len i hi 2 (by omega)).trans (by rw [← h1]; rfl)), h2, h3.imp id fun h e => h (.inr e)⟩
/-- a mark is copied -/
theorem CpW.app {W W' : World} {g : Nat} {l : List (Nat × KeyL)} {rv : Value} {vs : List Value} (h : CpW W g l rv vs) {x : Nat × KeyL} {A : Option Addr} {c g' cap : Nat} {cs : List Value} {n1 : Nat} (hr : Rd W A x.2.out.length 1 (icells x.2.out)) (hf : x.2.out = [] ∨ ¬ (rv.ownBlock = some (blk A) ∨ blk A ≤ g))
    (hcs : cs = mcells l vs ++ [.int .i64 (x.1 : Nat), .int .i64 x.2.c, .slice A x.2.out.length c]) (hn : n1 = l.length + 1) (ho : W'.ownsRow (g + 1) 71 3 (.slice (some ⟨g', 0, none⟩) n1 cap) n1 cs) (hg : W.grownBy W' rv.ownBlock) (hv : rv.ownBlock = some g' ∨ W.heap.size < g') :
    CpW (W'.setCell ⟨g, 1, none⟩ (.slice (some ⟨g', 0, none⟩) n1 cap)) g (l ++ [x]) (.slice (some ⟨g', 0, none⟩) n1 cap) (vs ++ [.slice A x.2.out.length c]) := by
  subst hcs; subst hn
  have hg1 := (ho.lt g' rfl).1
  have key : ∀ (B : Option Addr) (y : List Int), Rd W B y.length 1 (icells y) → (y = [] ∨ ¬ (rv.ownBlock = some (blk B) ∨ blk B ≤ g)) → Rd (W'.setCell ⟨g, 1, none⟩ (.slice (some ⟨g', 0, none⟩) (l.length + 1) cap)) B y.length 1 (icells y) ∧ (y = [] ∨ ¬ ((Value.slice (some ⟨g', 0, none⟩) (l.length + 1) cap).ownBlock = some (blk B) ∨ blk B ≤ g)) := fun B y h1 h2 => by
    by_cases hne : y = []
    · exact ⟨h1.moved fun e => absurd hne e, .inl hne⟩
    · have h3 := h2.resolve_left hne
      have h4 := (rd_lt h1 hne).1
      refine ⟨h1.moved fun _ => (Below.heap_setCell _ _ _ _ (fun e => h3 (.inr (by rw [e]; exact Nat.le_refl g)))).trans (hg.block _ h4 fun e => h3 (.inl e.symm)), .inr fun e => ?_⟩
      rcases e with e | e
      · have e2 : g' = blk B := Option.some.inj e
        subst e2
        rcases hv with hv | hv
        · exact h3 (.inl hv)
        · omega
      · exact h3 (.inr e)
  refine ⟨by simp [h.len], ?_, fun i hi hi' => ?_⟩
  · rw [mcells_snoc l vs h.len x, List.length_append, List.length_singleton]
    exact own_setCell ho (fun e => by have e2 : g' = g := Option.some.inj e; omega) _
  · rw [List.length_append, List.length_singleton] at hi
    by_cases hlt : i < l.length
    · obtain ⟨B, c2, h1, h2, h3⟩ := h.outs i hlt (by rw [h.len]; exact hlt)
      obtain ⟨k1, k2⟩ := key B _ h2 h3
      simp only [List.getElem_append_left hlt, List.getElem_append_left (show i < vs.length by rw [h.len]; exact hlt)]
      exact ⟨B, c2, h1, k1, k2⟩
    · obtain rfl : i = l.length := by omega
      obtain ⟨k1, k2⟩ := key A _ hr hf
      have e2 : (vs ++ [Value.slice A x.2.out.length c])[l.length]'hi' = .slice A x.2.out.length c := by
        rw [List.getElem_append_right (by rw [h.len]; omega)]; simp
      have e1 : (l ++ [x])[l.length]'(by simp) = x := by rw [List.getElem_append_right (by omega)]; simp
      rw [e2]
      simp only [e1]
      exact ⟨A, c, rfl, k1, k2⟩
end Go.Proofs.Ytikkmoleneioeaa
