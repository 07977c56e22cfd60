/- certain.Make's memory. -/
/- certain.Make's memory in the loop over pairs of labels. -/
import Derived.Test.YtkmnacchiagipaaDoorCertReachMem
import Derived.Test.YtkmnacchiagipaaDoorCertSort
import Derived.Test.YtkmnacchiagipaaDoorCertKey
import Derived.Laws.OwnMore
namespace Go.Proofs.YtkmnacchiagipaaDoor
open Go.RowKit
open Go.ChangeMaps (setBlock)

abbrev atV (j : Nat) : Value := .agg #[.int .i64 j]
def numL (Ss : List SetL) : List (List UInt8 × Nat) := Ss.zipIdx.map fun p => (keyT p.1, p.2)
theorem numL_snoc (Ss : List SetL) (T : SetL) : numL (Ss ++ [T]) = numL Ss ++ [(keyT T, Ss.length)] := by
  unfold numL
  rw [List.zipIdx_append, List.map_append]
  simp
theorem numL_keys (Ss : List SetL) : (numL Ss).map (·.1) = Ss.map keyT := by
  unfold numL
  rw [List.map_map]
  have e : ((fun x : List UInt8 × Nat => x.1) ∘ fun p : SetL × Nat => (keyT p.1, p.2)) = keyT ∘ Prod.fst := rfl
  rw [e, ← List.map_map, List.zipIdx_map_fst]
theorem numL_found {Ss : List SetL} {T : SetL} (hn : ∀ S ∈ Ss, ∀ p ∈ S, 0 ≤ p.2) (hT : ∀ p ∈ T, 0 ≤ p.2) {j : Nat} (h : assoc (numL Ss) (keyT T) = some j) : Ss[j]? = some T := by
  have h1 := assoc_mem h
  unfold numL at h1
  obtain ⟨⟨S, i⟩, h2, h3⟩ := List.mem_map.1 h1
  injection h3 with h3 h4
  simp only at h3 h4
  subst h4
  have h5 := List.mem_zipIdx_iff_getElem?.1 h2
  simp only at h5
  have hS := hn S (List.mem_of_getElem? h5)
  rw [h5, keyT_inj hS hT h3]
theorem numL_none {Ss : List SetL} {T : SetL} (h : assoc (numL Ss) (keyT T) = none) : keyT T ∉ (numL Ss).map (·.1) ∧ T ∉ Ss := by
  have h1 := (assoc_none_iff _ _).1 h
  refine ⟨h1, fun hm => h1 ?_⟩
  rw [numL_keys]
  exact List.mem_map.2 ⟨T, hm, rfl⟩
/-- two tables in memory say the same -/
theorem next_of {m : MachL} {S : SetL} {L : TabL} {F : TabF} (h : RS L F (fun _ => False) (fun k q c => Cand m S k.1 k.2 q c)) {k : KK} {b : Nat} (hb : (k, b) ∈ L) (nd : ((F b).map (·.1)).Nodup) {w : Int} {T : SetL} (hT : SetR (F b) w T) : NextS m S k.1 k.2 w T := by
  refine ⟨hT.srt, fun q l => ?_, hT.zero, hT.nn⟩
  rw [hT.mem, mem_assoc nd]
  constructor
  · intro h1
    exact h.val k b hb q _ h1
  · rintro ⟨h1, h2⟩
    have h3 := h.has k b hb q _ h1
    cases ha : assoc (F b) q with
    | none => rw [ha] at h3; cases h3
    | some v =>
      obtain ⟨h4, h5⟩ := h.val k b hb q v ha
      have := h5 _ h1; have := h2 _ h4
      rw [show v = l + w by omega]
theorem keys_of {m : MachL} {S : SetL} {L : TabL} {F : TabF} (h : RS L F (fun _ => False) (fun k q c => Cand m S k.1 k.2 q c)) {ks : List KK} (hp : ks.Perm (L.map (·.1))) (ho : ks.Pairwise keyLt) : KeysS m S ks :=
  ⟨ho, fun k => by rw [hp.mem_iff, h.key]; exact ⟨fun g => g.resolve_left id, .inr⟩⟩
theorem cand_bound {m : MachL} {S : SetL} {WW : Int} (hw : WtC m WW) (hW : WW ≤ 10000000) (hS : SetOk m S) {i o : Int} {q : Nat} {c : Int} (h : Cand m S i o q c) : 0 ≤ c ∧ c ≤ 1000000000 := by
  obtain ⟨p, hp, a, ha, -, -, -, rfl⟩ := h
  have := hS.p p hp; have := hw.w _ a ha
  omega
theorem sorted_len : ∀ {S : SetL} (n : Nat), SortedS S → (∀ p ∈ S, p.1 < n) → S.length ≤ n := fun {S} n hs hn => by
  have h1 : (S.map (·.1)).Nodup := List.pairwise_map.2 (hs.imp fun h e => by omega)
  have h2 := nodup_ltR (idx := S.map (·.1)) (n := n) h1 (fun i hi => by obtain ⟨p, hp, rfl⟩ := List.mem_map.1 hi; exact hn p hp)
  rwa [List.length_map] at h2

/-- certain.Make's memory: the machine's box, the result's cell, the box of what is made, its rows, the map of numbers, the sets that wait -/
structure MK (w : World) (B : Option Addr) (n cb : Nat) (st : Int) (g bn : Nat) (wr : World) (tv sv : Value) (vs : List Value) (ss : List StateL) (Ss : List SetL) (ts : List Value) (NL : List (List UInt8 × Nat)) : Prop where
  mb : Blk wr w.heap.size #[.int .i64 st, .slice B n cb] 41
  rb : Blk wr (w.heap.size + 1) #[.int .i64 0, .slice none 0 0] 41
  ob : Blk wr g #[.int .i64 0, sv] 41
  own : OwnStV wr w.heap.size sv vs ss
  nm : MapB wr bn strC atV NL
  td : wr.ownsRow w.heap.size 132 1 tv Ss.length ts
  tl : ts.length = Ss.length
  se : ∀ (j : Nat) (S : SetL), Ss[j]? = some S → ∃ A c, ts[j]? = some (.slice A S.length c) ∧ OwnTwos 130 wr w.heap.size (.slice A S.length c) (setI S)
  bel : Below w.heap.size w wr
  gn : w.heap.size + 1 < g
  bnn : w.heap.size < bn
section
variable {w wr w' : World} {B : Option Addr} {n cb g bn : Nat} {st : Int} {tv sv : Value} {vs : List Value} {ss : List StateL} {Ss : List SetL} {ts : List Value} {NL : List (List UInt8 × Nat)}
theorem MK.tsOwn (h : MK w B n cb st g bn wr tv sv vs ss Ss ts NL) {v : Value} (hv : v ∈ ts) : ∃ S, OwnTwos 130 wr w.heap.size v (setI S) := by
  obtain ⟨j, hj, rfl⟩ := List.getElem_of_mem hv
  have hj2 : j < Ss.length := by rw [← h.tl]; exact hj
  obtain ⟨A, c, h1, h2⟩ := h.se j _ (List.getElem?_eq_getElem hj2)
  rw [List.getElem?_eq_getElem hj] at h1
  exact ⟨_, by rw [Option.some.inj h1]; exact h2⟩
theorem MK.kept (h : MK w B n cb st g bn wr tv sv vs ss Ss ts NL) {row : Option Nat} (hg : wr.grownBy w' row) (h1 : ∀ k, row = some k → k ≠ w.heap.size ∧ k ≠ w.heap.size + 1 ∧ k ≠ g ∧ k ≠ bn ∧ w.heap.size ≤ k)
    (h2 : ∀ v, v = tv ∨ v = sv ∨ v ∈ ts ∨ v ∈ vs → v.ownBlock = none ∨ v.ownBlock ≠ row) : MK w B n cb st g bn w' tv sv vs ss Ss ts NL := by
  refine ⟨h.mb.grown hg (fun e => (h1 _ e.symm).1 rfl), h.rb.grown hg (fun e => (h1 _ e.symm).2.1 rfl), h.ob.grown hg (fun e => (h1 _ e.symm).2.2.1 rfl), ⟨h.own.len, World.ownsRow.kept h.own.row hg (h2 _ (.inr (.inl rfl))), fun i hi hi' => World.ownsRow.kept (h.own.arcs i hi hi') hg (h2 _ (.inr (.inr (.inr (List.getElem_mem _)))))⟩,
    h.nm.grown hg (fun e => (h1 _ e.symm).2.2.2.1 rfl), World.ownsRow.kept h.td hg (h2 _ (.inl rfl)), h.tl, fun j S hj => ?_, h.bel.grown hg h.bel.size (fun j hj => (h1 j hj).2.2.2.2), h.gn, h.bnn⟩
  obtain ⟨A, c, h3, h4⟩ := h.se j S hj
  exact ⟨A, c, h3, World.ownsRow.kept h4 hg (h2 _ (.inr (.inr (.inl (List.mem_of_getElem? h3)))))⟩
theorem MK.keep (h : MK w B n cb st g bn wr tv sv vs ss Ss ts NL) (hb : Below wr.heap.size wr w') : MK w B n cb st g bn w' tv sv vs ss Ss ts NL :=
  h.kept (row := none) (grown_of_below hb none) (by simp) (fun v _ => by cases hv : v.ownBlock <;> simp)
theorem ownT_ne {B0 nn sz : Nat} {e T : TypeId} {v : Value} {xs : List Value} (ho : wr.ownsRow B0 e sz v nn xs) {k : Nat} {cur : Array Value} {fz : Nat × Nat} (hk : wr.heap[k]? = some (.cells cur T fz)) (h : e ≠ T) : v.ownBlock ≠ some k := by
  rcases ho.2 with ⟨rfl, _⟩ | ⟨g, cap, cur', rfl, _, hg, _⟩
  · simp [Value.ownBlock]
  · intro e2
    simp [Value.ownBlock] at e2
    subst e2
    rw [hg] at hk
    simp at hk
    exact h hk.2.1
theorem blkT_ne {b k : Nat} {cs cur : Array Value} {t T : TypeId} {fz : Nat × Nat} (hb : Blk wr b cs t) (hk : wr.heap[k]? = some (.cells cur T fz)) (h : t ≠ T) : k ≠ b := by
  intro e
  subst e
  unfold Blk at hb
  rw [hb] at hk
  simp at hk
  exact h hk.2.1
theorem mapT_ne {κ ν : Type} {c : κ → Value} {d : ν → Value} {l : List (κ × ν)} {b k : Nat} {cur : Array Value} {T : TypeId} {fz : Nat × Nat} (hm : MapB wr b c d l) (hk : wr.heap[k]? = some (.cells cur T fz)) : k ≠ b := by
  intro e
  subst e
  rw [hm.blk] at hk
  cases hk
/-- a change in a block of another type -/
theorem MK.keptT (h : MK w B n cb st g bn wr tv sv vs ss Ss ts NL) {row : Option Nat} (hg : wr.grownBy w' row)
    (hT : ∀ k, row = some k → (∃ cur T fz, wr.heap[k]? = some (.cells cur T fz) ∧ T ≠ 41 ∧ T ≠ 132 ∧ T ≠ 130) ∧ w.heap.size ≤ k ∧ ∀ v, v = sv ∨ v ∈ vs → v.ownBlock ≠ some k) : MK w B n cb st g bn w' tv sv vs ss Ss ts NL := by
  refine h.kept hg (fun k hk => ?_) (fun v hv => ?_)
  · obtain ⟨⟨cur, T, fz, h1, h2, h3, h4⟩, h5, h6⟩ := hT k hk
    exact ⟨blkT_ne h.mb h1 h2.symm, blkT_ne h.rb h1 h2.symm, blkT_ne h.ob h1 h2.symm, mapT_ne h.nm h1, h5⟩
  · cases hr : row with
    | none => cases v.ownBlock <;> simp
    | some k =>
      obtain ⟨⟨cur, T, fz, h1, h2, h3, h4⟩, h5, h6⟩ := hT k hr
      right
      rcases hv with rfl | rfl | hv | hv
      · exact ownT_ne h.td h1 h3.symm
      · exact h6 _ (.inl rfl)
      · obtain ⟨S, hS⟩ := h.tsOwn hv
        exact ownT_ne hS h1 h4.symm
      · exact h6 _ (.inr hv)
/-- a number is put down -/
theorem MK.putN (h : MK w B n cb st g bn wr tv sv vs ss Ss ts NL) (k : List UInt8) (j : Nat) : MK w B n cb st g bn (setBlock wr bn (mapObj strC atV (mput NL k j))) tv sv vs ss Ss ts (mput NL k j) := by
  have hg : wr.grownBy (setBlock wr bn (mapObj strC atV (mput NL k j))) (some bn) := setBlock_grown _
  have hno : ∀ cur e' fz, wr.heap[bn]? ≠ some (.cells cur e' fz) := fun cur e' fz e => by rw [h.nm.blk] at e; cases e
  refine ⟨h.mb.setMap h.nm _, h.rb.setMap h.nm _, h.ob.setMap h.nm _, ⟨h.own.len, World.ownsRow.kept h.own.row hg (.inr (own_ne_cellsC h.own.row hno)), fun i hi hi' => World.ownsRow.kept (h.own.arcs i hi hi') hg (.inr (own_ne_cellsC (h.own.arcs i hi hi') hno))⟩,
    h.nm.put k j, World.ownsRow.kept h.td hg (.inr (own_ne_cellsC h.td hno)), h.tl, fun i S hS => ?_, below_set h.bel (Nat.le_of_lt h.bnn) h.bel.size, h.gn, h.bnn⟩
  obtain ⟨A, c, h3, h4⟩ := h.se i S hS
  exact ⟨A, c, h3, World.ownsRow.kept h4 hg (.inr (own_ne_cellsC h4 hno))⟩
/-- a set is put behind those that wait -/
theorem MK.addSet (h : MK w B n cb st g bn wr tv sv vs ss Ss ts NL) (hg : wr.grownBy w' tv.ownBlock) {v' : Value} {A : Option Addr} {c : Nat} {T : SetL} (hT : OwnTwos 130 wr w.heap.size (.slice A T.length c) (setI T)) (ho : w'.ownsRow w.heap.size 132 1 v' (Ss.length + 1) (ts ++ [.slice A T.length c])) :
    MK w B n cb st g bn w' v' sv vs ss (Ss ++ [T]) (ts ++ [.slice A T.length c]) NL := by
  have hne : ∀ {b : Nat} {cs : Array Value} {t : TypeId}, Blk wr b cs t → t ≠ 132 → some b ≠ tv.ownBlock := fun {b cs t} hb ht e => by
    unfold Blk at hb
    exact ownT_ne h.td hb ht.symm e.symm
  have hnm : some bn ≠ tv.ownBlock := fun e => own_ne_cellsC h.td (fun cur e' fz e => by rw [h.nm.blk] at e; cases e) e.symm
  refine ⟨h.mb.grown hg (hne h.mb (by decide)), h.rb.grown hg (hne h.rb (by decide)), h.ob.grown hg (hne h.ob (by decide)), ⟨h.own.len, World.ownsRow.kept h.own.row hg (own_ne h.own.row h.td (by decide)), fun i hi hi' => World.ownsRow.kept (h.own.arcs i hi hi') hg (own_ne (h.own.arcs i hi hi') h.td (by decide))⟩,
    h.nm.grown hg hnm, by rw [List.length_append]; exact ho, by simp [h.tl], fun j S hj => ?_, h.bel.grown hg h.bel.size (fun j hj => (h.td.lt j hj).1), h.gn, h.bnn⟩
  by_cases hlt : j < Ss.length
  · rw [List.getElem?_append_left hlt] at hj
    obtain ⟨A', c', h3, h4⟩ := h.se j S hj
    exact ⟨A', c', by rw [List.getElem?_append_left (by rw [h.tl]; exact hlt)]; exact h3, World.ownsRow.kept h4 hg (own_ne h4 h.td (by decide))⟩
  · have hjl := (List.getElem?_eq_some_iff.1 hj).1
    simp only [List.length_append, List.length_singleton] at hjl
    obtain rfl : j = Ss.length := by omega
    rw [List.getElem?_append_right (Nat.le_refl _)] at hj
    simp only [Nat.sub_self, List.getElem?_cons_zero, Option.some.injEq] at hj
    subst hj
    exact ⟨A, c, by rw [← h.tl]; simp, World.ownsRow.kept hT hg (own_ne hT h.td (by decide))⟩
/-- a state is done -/
theorem MK.addState (h : MK w B n cb st g bn wr tv sv vs ss Ss ts NL) (hg : wr.grownBy w' sv.ownBlock) (s : StateL) {av v' : Value} (ha : OwnArcs wr w.heap.size av s.arcs) {k : Nat} (hk : k = ss.length + 1)
    (hx : w'.ownsRow w.heap.size 76 2 v' k (statesCells ((ss.map (·.final)).zip vs) ++ [.int .i64 s.final, av])) : MK w B n cb st g bn (w'.setCell ⟨g, 1, none⟩ v') tv v' (vs ++ [av]) (ss ++ [s]) Ss ts NL := by
  have hne : ∀ {b : Nat} {cs : Array Value} {t : TypeId}, Blk wr b cs t → t ≠ 76 → some b ≠ sv.ownBlock := fun {b cs t} hb ht e => by
    unfold Blk at hb
    exact ownT_ne h.own.row hb ht.symm e.symm
  have hnm : some bn ≠ sv.ownBlock := fun e => own_ne_cellsC h.own.row (fun cur e' fz e => by rw [h.nm.blk] at e; cases e) e.symm
  have hob := h.ob.grown hg (hne h.ob (by decide))
  have hnm' := h.nm.grown hg hnm
  have htd := World.ownsRow.kept h.td hg (own_ne h.td h.own.row (by decide))
  have hst := h.own.app s ha hg hk hx
  have hgn := h.gn
  have hgc : w'.heap[g]? = some (.cells #[.int .i64 0, sv] 41 (0, 0)) := hob
  refine ⟨(h.mb.grown hg (hne h.mb (by decide))).far (by simp; omega) _, (h.rb.grown hg (hne h.rb (by decide))).far (by simp; omega) _, (hob.put 1 v').eq (by simp), ⟨hst.len, own_setCell hst.row (ownT_ne hst.row hgc (by decide)) _, fun i hi hi' => own_setCell (hst.arcs i hi hi') (ownT_ne (hst.arcs i hi hi') hgc (by decide)) _⟩,
    hnm'.setCell (fun e => mapT_ne hnm' hgc e.symm) _, own_setCell htd (ownT_ne htd hgc (by decide)) _, h.tl, fun j S hj => ?_, (h.bel.grown hg h.bel.size (fun j hj => (h.own.row.lt j hj).1)).setCell (by simp; omega) _, h.gn, h.bnn⟩
  obtain ⟨A', c', h3, h4⟩ := h.se j S hj
  have h5 := World.ownsRow.kept h4 hg (own_ne h4 h.own.row (by decide))
  exact ⟨A', c', h3, own_setCell h5 (ownT_ne h5 hgc (by decide)) _⟩
theorem MK.low (h : MK w B n cb st g bn wr tv sv vs ss Ss ts NL) : ∀ v, v = sv ∨ v ∈ vs → ∀ k, v.ownBlock = some k → k < wr.heap.size := by
  rintro v (rfl | hv) k hk
  · exact (h.own.row.lt k hk).2
  · obtain ⟨i, hi, rfl⟩ := List.getElem_of_mem hv
    have hi2 : i < ss.length := by have := h.own.len; omega
    exact (World.ownsRow.lt (h.own.arcs i hi2 (by have := h.own.len; omega)) k hk).2
end
/-- the tables that reached made -/
structure TabsC (W : World) (bn b0 : Nat) (L : TabL) (F : TabF) : Prop where
  map : MapB W b0 pairV mapV L
  inn : ∀ x ∈ L, MapB W x.2 natV intV (F x.2)
  hi : bn < b0 ∧ ∀ x ∈ L, bn < x.2
theorem TabsC.kept {W W' : World} {bn b0 : Nat} {L : TabL} {F : TabF} (h : TabsC W bn b0 L F) {row : Option Nat} (hg : W.grownBy W' row) (hr : ∀ k, row = some k → k = bn ∨ ∃ cur T fz, W.heap[k]? = some (.cells cur T fz)) : TabsC W' bn b0 L F := by
  have key : ∀ {κ ν : Type} {c : κ → Value} {d : ν → Value} {l : List (κ × ν)} {b : Nat}, MapB W b c d l → bn < b → MapB W' b c d l := fun {κ ν c d l b} hm hb => hm.grown hg fun e => by
    rcases hr b e.symm with h1 | ⟨cur, T, fz, h1⟩
    · omega
    · exact mapT_ne hm h1 rfl
  exact ⟨key h.map h.hi.1, fun x hx => key (h.inn x hx) (h.hi.2 x hx), h.hi⟩
theorem TabsC.keep {W W' : World} {bn b0 : Nat} {L : TabL} {F : TabF} (h : TabsC W bn b0 L F) (hb : Below W.heap.size W W') : TabsC W' bn b0 L F := h.kept (row := none) (grown_of_below hb none) (by simp)
end Go.Proofs.YtkmnacchiagipaaDoor

namespace Go.Proofs.YtkmnacchiagipaaDoor
open Go.RowKit
open Go.ChangeMaps (setBlock)

theorem grown_setC (w : World) (b o : Nat) (u : Value) : w.grownBy (w.setCell ⟨b, o, none⟩ u) (some b) :=
  ⟨rfl, rfl, rfl, by simp [World.setCell], fun i _ hi => Below.heap_setCell _ _ _ _ (fun e => hi (by simp at e; rw [e]))⟩
theorem own_cellsOf {w : World} {base : Nat} {e : TypeId} {size n : Nat} {v : Value} {xs : List Value} (h : w.ownsRow base e size v n xs) {k : Nat} (hk : v.ownBlock = some k) : ∃ cur, w.heap[k]? = some (.cells cur e (0, 0)) := by
  rcases h.2 with ⟨rfl, _⟩ | ⟨g, cap, cur, rfl, _, hg, _⟩
  · simp [Value.ownBlock] at hk
  · simp [Value.ownBlock] at hk
    subst hk
    exact ⟨cur, hg⟩
structure IK (w : World) (B : Option Addr) (n cb : Nat) (st : Int) (g bn b0 bs base : Nat) (f : Int) (sv : Value) (vs : List Value) (ss : List StateL) (L : TabL) (F : TabF) (kv : Value) (ks : List (Int × Int)) (wr : World) (tv av : Value) (Ss : List SetL) (ts : List Value) (NL : List (List UInt8 × Nat)) (cur : List ArcL) : Prop where
  mem : MK w B n cb st g bn wr tv sv vs ss Ss ts NL
  sb : Blk wr bs #[.int .i64 f, av] 76
  ar : OwnArcs wr base av cur
  tb : TabsC wr bn b0 L F
  ky : OwnTwos 141 wr w.heap.size kv ks
  lo : ∀ v, v = sv ∨ v ∈ vs → ∀ k, v.ownBlock = some k → k < base
  bse : w.heap.size ≤ base ∧ base ≤ bs
section
variable {w wr w' : World} {B : Option Addr} {n cb g bn b0 bs base : Nat} {st f : Int} {sv : Value} {vs : List Value} {ss : List StateL} {L : TabL} {F : TabF} {kv : Value} {ks : List (Int × Int)} {tv av : Value} {Ss : List SetL} {ts : List Value} {NL : List (List UInt8 × Nat)} {cur : List ArcL}
theorem IK.keep (h : IK w B n cb st g bn b0 bs base f sv vs ss L F kv ks wr tv av Ss ts NL cur) (hb : Below wr.heap.size wr w') : IK w B n cb st g bn b0 bs base f sv vs ss L F kv ks w' tv av Ss ts NL cur :=
  ⟨h.mem.keep hb, h.sb.step hb, h.ar.below hb (Nat.le_refl _), h.tb.keep hb, own_below h.ky hb (Nat.le_refl _), h.lo, h.bse⟩
/-- a box of its own changes -/
theorem IK.box (h : IK w B n cb st g bn b0 bs base f sv vs ss L F kv ks wr tv av Ss ts NL cur) {b : Nat} {cs : Array Value} {T : TypeId} (hb : Blk wr b cs T) (hbb : base ≤ b) (hT : T ≠ 41 ∧ T ≠ 132 ∧ T ≠ 130 ∧ T ≠ 76 ∧ T ≠ 78 ∧ T ≠ 141) (o : Nat) (u : Value) :
    IK w B n cb st g bn b0 bs base f sv vs ss L F kv ks (wr.setCell ⟨b, o, none⟩ u) tv av Ss ts NL cur := by
  have hg := grown_setC wr b o u
  have hk : wr.heap[b]? = some (.cells cs T (0, 0)) := hb
  obtain ⟨h1, h2, h3, h4, h5, h6⟩ := hT
  refine ⟨h.mem.keptT hg (fun k e => ?_), h.sb.grown hg (fun e => ?_), h.ar.grown hg (.inr (ownT_ne h.ar hk h5.symm)), h.tb.kept hg (fun k e => ?_), World.ownsRow.kept h.ky hg (.inr (ownT_ne h.ky hk h6.symm)), h.lo, h.bse⟩
  · injection e with e; subst e
    exact ⟨⟨_, _, _, hk, h1, h2, h3⟩, Nat.le_trans h.bse.1 hbb, fun v hv e => by have := h.lo v hv _ e; omega⟩
  · injection e with e
    exact blkT_ne h.sb hk h4.symm e.symm
  · injection e with e; subst e
    exact .inr ⟨_, _, _, hk⟩
/-- a number is put down -/
theorem IK.putN (h : IK w B n cb st g bn b0 bs base f sv vs ss L F kv ks wr tv av Ss ts NL cur) (k : List UInt8) (j : Nat) :
    IK w B n cb st g bn b0 bs base f sv vs ss L F kv ks (setBlock wr bn (mapObj strC atV (mput NL k j))) tv av Ss ts (mput NL k j) cur := by
  have hg : wr.grownBy (setBlock wr bn (mapObj strC atV (mput NL k j))) (some bn) := setBlock_grown _
  have hno : ∀ cur e' fz, wr.heap[bn]? ≠ some (.cells cur e' fz) := fun cur e' fz e => by rw [h.mem.nm.blk] at e; cases e
  exact ⟨h.mem.putN k j, h.sb.setMap h.mem.nm _, h.ar.grown hg (.inr (own_ne_cellsC h.ar hno)), h.tb.kept hg (fun k e => by injection e with e; exact .inl e.symm), World.ownsRow.kept h.ky hg (.inr (own_ne_cellsC h.ky hno)), h.lo, h.bse⟩
/-- a set is put behind those that wait -/
theorem IK.addSet (h : IK w B n cb st g bn b0 bs base f sv vs ss L F kv ks wr tv av Ss ts NL cur) (hg : wr.grownBy w' tv.ownBlock) {v' : Value} {A : Option Addr} {c : Nat} {T : SetL} (hT : OwnTwos 130 wr w.heap.size (.slice A T.length c) (setI T)) (ho : w'.ownsRow w.heap.size 132 1 v' (Ss.length + 1) (ts ++ [.slice A T.length c])) :
    IK w B n cb st g bn b0 bs base f sv vs ss L F kv ks w' v' av (Ss ++ [T]) (ts ++ [.slice A T.length c]) NL cur := by
  refine ⟨h.mem.addSet hg hT ho, h.sb.grown hg (fun e => ?_), h.ar.grown hg (own_ne h.ar h.mem.td (by decide)), h.tb.kept hg (fun k e => ?_), World.ownsRow.kept h.ky hg (own_ne h.ky h.mem.td (by decide)), h.lo, h.bse⟩
  · have hk := h.sb
    unfold Blk at hk
    exact ownT_ne h.mem.td hk (by decide) e.symm
  · obtain ⟨cur, hc⟩ := own_cellsOf h.mem.td e
    exact .inr ⟨_, _, _, hc⟩
/-- an arc is put down -/
theorem IK.arc (h : IK w B n cb st g bn b0 bs base f sv vs ss L F kv ks wr tv av Ss ts NL cur) (hg : wr.grownBy w' av.ownBlock) (a : ArcL) {v' : Value} {k : Nat} (hk : k = cur.length + 1) (hx : w'.ownsRow base 78 4 v' k (arcsCells cur ++ arcCells a)) :
    IK w B n cb st g bn b0 bs base f sv vs ss L F kv ks (w'.setCell ⟨bs, 1, none⟩ v') tv v' Ss ts NL (cur ++ [a]) := by
  have hsb := h.sb
  have hsbk : wr.heap[bs]? = some (.cells #[.int .i64 f, av] 76 (0, 0)) := hsb
  have ho : OwnArcs w' base v' (cur ++ [a]) := by unfold OwnArcs; rw [arcsCells_snoc, List.length_append]; subst hk; exact hx
  have m1 := h.mem.keptT hg (fun k e => by
    obtain ⟨c0, hc⟩ := own_cellsOf h.ar e
    exact ⟨⟨_, _, _, hc, by decide, by decide, by decide⟩, Nat.le_trans h.bse.1 (World.ownsRow.lt h.ar k e).1, fun v hv e2 => by have := h.lo v hv _ e2; have := (World.ownsRow.lt h.ar k e).1; omega⟩)
  have s1 : Blk w' bs #[.int .i64 f, av] 76 := hsb.grown hg (fun e => ownT_ne h.ar hsbk (by decide) e.symm)
  have s1k : w'.heap[bs]? = some (.cells #[.int .i64 f, av] 76 (0, 0)) := s1
  have t1 := h.tb.kept hg (fun k e => by
    obtain ⟨c0, hc⟩ := own_cellsOf h.ar e
    exact .inr ⟨_, _, _, hc⟩)
  have k1 : OwnTwos 141 w' w.heap.size kv ks := World.ownsRow.kept h.ky hg (own_ne h.ky h.ar (by decide))
  have hg2 := grown_setC w' bs 1 v'
  refine ⟨m1.keptT hg2 (fun k e => ?_), (s1.put 1 v').eq (by simp), ho.setCell (ownT_ne ho s1k (by decide)) _, t1.kept hg2 (fun k e => ?_), own_setCell k1 (ownT_ne k1 s1k (by decide)) _, h.lo, h.bse⟩
  · injection e with e; subst e
    exact ⟨⟨_, _, _, s1k, by decide, by decide, by decide⟩, Nat.le_trans h.bse.1 h.bse.2, fun v hv e2 => by have := h.lo v hv _ e2; have := h.bse.2; omega⟩
  · injection e with e; subst e
    exact .inr ⟨_, _, _, s1k⟩
end
end Go.Proofs.YtkmnacchiagipaaDoor
