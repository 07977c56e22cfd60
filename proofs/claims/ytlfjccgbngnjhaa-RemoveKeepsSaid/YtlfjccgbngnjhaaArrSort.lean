/- arrange: slices.SortFunc at a row of arcs of the call's own. -/
import Derived.Test.YtlfjccgbngnjhaaArrCmp
import Derived.Test.YtlfjccgbngnjhaaLayS
import Derived.Sort.OwnSortedInts
namespace Go.Proofs.Ytlfjccgbngnjhaa
open Go.RowKit Go.Sort

instance : Inhabited ArcL := ⟨⟨0, 0, 0, 0⟩⟩

theorem flat_arcs (l : List ArcL) : flatK arcCells 4 l.toArray = (arcsCells l).toArray := by
  apply Array.ext'
  apply List.ext_getElem?
  intro t
  rw [Array.getElem?_toList]
  rcases Nat.lt_or_ge t (l.length * 4) with h | h
  · have hi : t / 4 < l.length := by omega
    have e := flatMap_at arcCells 4 (fun _ => rfl) l (t / 4) hi (t % 4) (by omega)
    rw [show t / 4 * 4 + t % 4 = t by omega] at e
    have hs : t < (flatK arcCells 4 l.toArray).size := by simp; omega
    rw [Array.getElem?_eq_getElem hs]
    have h1 := get_flatK arcCells 4 l.toArray t (by simpa using h)
    rw [getElem!_pos _ t hs] at h1
    rw [h1]
    show _ = (arcsCells l)[t]?
    unfold arcsCells
    rw [e]
    have h2 : l.toArray[t / 4]! = l[t / 4] := by rw [getElem!_pos l.toArray (t / 4) (by simpa using hi)]; simp
    rw [h2]
    have h3 : t % 4 < (arcCells l[t / 4]).length := by simp [arcCells]; omega
    rw [getElem!_pos (arcCells l[t / 4]) (t % 4) h3, List.getElem?_eq_getElem h3]
  · rw [Array.getElem?_eq_none (by simp; omega)]
    show _ = (arcsCells l)[t]?
    rw [List.getElem?_eq_none (by rw [arcsCells_len]; exact h)]

theorem holds_arcs {w : World} {g : Nat} {cur : Array Value} {e : TypeId} {l : List ArcL} (hb : w.heap[g]? = some (.cells cur e (0, 0))) (ht : cur.toList.take (l.length * 4) = arcsCells l) : HoldsK arcCells 4 w g 0 l.toArray := by
  unfold HoldsK
  rw [flat_arcs]
  intro j hj
  have hj' : j < (arcsCells l).length := by simpa using hj
  have hj2 : j < l.length * 4 := by rw [arcsCells_len] at hj'; exact hj'
  refine ⟨?_, by simp [World.frozen?, hb]⟩
  have h1 : (cur.toList.take (l.length * 4))[j]? = (arcsCells l)[j]? := by rw [ht]
  rw [List.getElem?_take_of_lt hj2] at h1
  simp only [World.cell?, hb, Nat.zero_add]
  simp only [Option.isSome_none, Bool.false_eq_true, if_false]
  rw [← Array.getElem?_toList, h1]
  rw [getElem!_pos _ j (by simpa using hj')]
  simp [hj']

theorem heap_row {w : World} {g n : Nat} {os : Array Obj} {cur : Array Value} {e : TypeId} {fr : Nat × Nat} (d : Array Value) (hb : w.heap[g]? = some (.cells cur e fr)) :
    (grow (putRow id (Sort.ahead w n) g 0 d) os).heap[g]? = some (.cells (putCells id 0 d cur) e fr) := by
  have hg : g < w.heap.size := (Array.getElem?_eq_some_iff.1 hb).1
  rw [heap_grow_old _ _ (by simpa using hg)]
  simp [putRow, mapBlock, Sort.ahead, Array.getElem?_modify, hb, onCells]
theorem below_row {w : World} {g n B : Nat} {os : Array Obj} (d : Array Value) (hg : B ≤ g) (hB : B ≤ w.heap.size) : Below B w (grow (putRow id (Sort.ahead w n) g 0 d) os) := by
  refine ⟨rfl, rfl, rfl, by simp, fun k hk => ?_⟩
  rw [heap_grow_old _ _ (by simp; omega)]
  have : g ≠ k := by omega
  simp [putRow, mapBlock, Sort.ahead, Array.getElem?_modify, this]
theorem take_row (cur : Array Value) (ts : List Value) (h : ts.length ≤ cur.size) : (putCells id 0 ts.toArray cur).toList.take ts.length = ts := by
  apply List.ext_getElem?
  intro j
  by_cases hj : j < ts.length
  · rw [List.getElem?_take_of_lt hj, Array.getElem?_toList]
    simp [putCells, hj, show j < cur.size by omega]
  · rw [List.getElem?_take_eq_none (by omega), List.getElem?_eq_none (by omega)]

/-- a key in terms of its four numbers -/
structure Key4 (k : ArcL → List Int) (K0 K1 K2 K3 : ArcL → Int) : Prop where
  ok : ArcKey k
  is : ∀ a, k a = [K0 a, K1 a, K2 a, K3 a]

theorem cmp_lays (fid : Nat) {k : ArcL → List Int} {K0 K1 K2 K3 : ArcL → Int} (h4 : Key4 k K0 K1 K2 K3) (hE : ∀ (x : Array Value) (W : World), (callFunc fid x).run Try.prog W = .ok (.enter fid x) W) (hK : KeyFn fid K0 K1 K2 K3)
    (bx g size : Nat) (w : World) (hbx : w.cell? ⟨bx, 0, none⟩ = some (.func (.func fid) #[] #[])) (hne : bx ≠ g) : CmpLays Try.prog 43 #[.pointer (some ⟨bx, 0, none⟩)] arcCells 4 (ordK k) g 0 size w := by
  intro m os dk _ x y
  have hlt := World.block_lt_of_cell? _ _ hbx
  have hc : (sortWorldK arcCells 4 w g 0 m dk os).cell? ⟨bx, 0, none⟩ = some (.func (.func fid) #[] #[]) := by
    unfold sortWorldK
    rw [cell?_grow _ _ _ (by simpa [putRowK] using hlt), cell?_putRowK_other _ _ _ _ _ _ _ hne]
    exact hbx
  have := by_any fid K0 K1 K2 K3 hE hK x y bx _ hc
  exact this.mono fun _ _ h => ⟨by rw [h.1]; unfold ordK; rw [h4.is, h4.is], h.2.grow⟩

theorem sort_own (fid : Nat) {k : ArcL → List Int} {K0 K1 K2 K3 : ArcL → Int} (h4 : Key4 k K0 K1 K2 K3) (hE : ∀ (x : Array Value) (W : World), (callFunc fid x).run Try.prog W = .ok (.enter fid x) W) (hK : KeyFn fid K0 K1 K2 K3)
    (v : Value) (l : List ArcL) (B bx : Nat) (w : World) (ho : OwnArcs w B v l) (hbx : w.cell? ⟨bx, 0, none⟩ = some (.func (.func fid) #[] #[])) (hne : v.ownBlock ≠ some bx) (hl : l.length ≤ 1000000) (hB : B ≤ w.heap.size) :
    Calls Try.prog 22 #[v, .func (.func 43) #[] #[.pointer (some ⟨bx, 0, none⟩)]] w fun e w' => e = .returned (.tuple #[]) ∧ OwnArcs w' B v (sortK k l) ∧ Below B w w' := by
  have ho' := ho
  rcases ho.2 with ⟨rfl, hn⟩ | ⟨g, cap, cur, rfl, hbg, hg, h1, h2, h3, h5⟩
  · have e : l = [] := List.eq_nil_of_length_eq_zero hn
    subst e
    refine (AnyF.slices_SortFunc_none Try.sortArc none 0 _ w).mono fun e w' h => ?_
    obtain ⟨he, rfl⟩ := h
    exact ⟨he, by rw [sortK_nil]; exact ho, Below.refl _ _⟩
  · have hgl : g < w.heap.size := (Array.getElem?_eq_some_iff.1 hg).1
    have hne' : bx ≠ g := fun e => hne (by rw [e]; rfl)
    have := AnyQ.slices_SortFunc_total Try.sortArc 4 (fun w => by kernel_rfl) (fun w => by kernel_rfl) arcCells (fun _ => rfl) (fun x v hv => by simp [arcCells] at hv; rcases hv with rfl | rfl | rfl | rfl <;> rfl) (ordK k) (swo_ordK h4.ok) 43 #[.pointer (some ⟨bx, 0, none⟩)] g 0 cap l.toArray w
      (fun args w => by simp [go_sem]) (cmp_lays fid h4 hE hK bx g _ w hbx hne') (holds_arcs hg h5) hgl (by simp; omega) (fun x y => tot_ordK h4.ok x y)
    refine this.mono fun e w' h => ?_
    obtain ⟨he, n, os, rfl⟩ := h
    have hs : (l.toArray.toList.mergeSort fun x y => !ltOf (ordK k) y x) = sortK k l := rfl
    rw [hs]
    unfold sortWorldK putRowK
    rw [flat_arcs]
    have hlen : (arcsCells (sortK k l)).length = l.length * 4 := by rw [arcsCells_len, sortK_len]
    refine ⟨he, ⟨by rw [arcsCells_len], .inr ⟨g, cap, _, by rw [sortK_len], hbg, heap_row _ hg, by rw [sortK_len]; exact h1, h2, by simp [putCells, h3], ?_⟩⟩, below_row _ hbg hB⟩
    rw [sortK_len, ← hlen]
    exact take_row cur _ (by rw [hlen, h3]; omega)
end Go.Proofs.Ytlfjccgbngnjhaa
