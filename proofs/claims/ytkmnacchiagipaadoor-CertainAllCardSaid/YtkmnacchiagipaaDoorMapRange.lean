/- 'for k, v := range m' over maps whose keys and elements are coded. -/
import Derived.Test.YtkmnacchiagipaaDoorMaps
import Derived.Maps.RangeWalk
namespace Go.Proofs.YtkmnacchiagipaaDoor
open Go.RowKit
open Go.ChangeMaps (setBlock)

/-- the entries at places idx -/
def pickL {α : Type} (l : List α) (idx : List Nat) : List α := idx.filterMap (l[·]?)
theorem pickL_snoc {α : Type} (l : List α) (idx : List Nat) (i : Nat) (h : i < l.length) : pickL l (idx ++ [i]) = pickL l idx ++ [l[i]] := by
  simp [pickL, List.filterMap_append, List.getElem?_eq_getElem h]
theorem pickL_len {α : Type} (l : List α) : ∀ (idx : List Nat), (∀ i ∈ idx, i < l.length) → (pickL l idx).length = idx.length
  | [], _ => rfl
  | i :: idx, h => by
    have := pickL_len l idx fun j hj => h j (by simp [hj])
    unfold pickL at *
    rw [List.filterMap_cons, List.getElem?_eq_getElem (h i (by simp))]
    simp [this]
theorem pickL_range {α : Type} (l : List α) : pickL l (List.range l.length) = l := by
  unfold pickL
  apply List.ext_getElem?
  intro j
  have key : ∀ (n : Nat), n ≤ l.length → (List.range n).filterMap (l[·]?) = l.take n := by
    intro n
    induction n with
    | zero => intro _; rfl
    | succ n ih =>
      intro hn
      rw [List.range_succ, List.filterMap_append, ih (by omega), List.take_succ_eq_append_getElem (by omega)]
      simp [List.getElem?_eq_getElem (show n < l.length by omega)]
  rw [key _ (Nat.le_refl _), List.take_length]
theorem pickL_all {α : Type} (l : List α) {idx : List Nat} (nd : idx.Nodup) (lt : ∀ i ∈ idx, i < l.length) (all : ∀ i, i < l.length → i ∈ idx) : (pickL l idx).Perm l := by
  have h : idx.Perm (List.range l.length) := (List.perm_ext_iff_of_nodup nd List.nodup_range).2 fun i => by
    rw [List.mem_range]; exact ⟨lt i, all i⟩
  have := h.filterMap (l[·]?)
  rw [show (List.range l.length).filterMap (l[·]?) = l from pickL_range l] at this
  exact this
theorem pickL_mem {α : Type} {l : List α} {idx : List Nat} {x : α} (h : x ∈ pickL l idx) : x ∈ l := by
  obtain ⟨i, -, hi⟩ := List.mem_filterMap.1 h
  exact List.mem_of_getElem? hi
theorem nodup_subR {α : Type} [DecidableEq α] : ∀ (l l' : List α), l.Nodup → (∀ x ∈ l, x ∈ l') → l.length ≤ l'.length
  | [], _, _, _ => by simp
  | a :: l, l', h, hs => by
    obtain ⟨h1, h2⟩ := List.nodup_cons.1 h
    have hm := hs a (by simp)
    have := nodup_subR l (l'.erase a) h2 fun x hx => (List.mem_erase_of_ne (fun e => h1 (by rw [← e]; exact hx))).2 (hs x (List.mem_cons_of_mem _ hx))
    rw [List.length_erase_of_mem hm] at this
    have : 0 < l'.length := List.length_pos_of_mem hm
    simp only [List.length_cons]; omega
theorem nodup_ltR {idx : List Nat} {n : Nat} (nd : idx.Nodup) (lt : ∀ i ∈ idx, i < n) : idx.length ≤ n := by
  have := nodup_subR idx (List.range n) nd fun i hi => List.mem_range.2 (lt i hi)
  simpa using this

section
variable {κ ν : Type}

/-- a loop over the map in block b under way; its iterator in block r; idx: the places that have been handed out -/
structure MapR (w : World) (b r : Nat) (c : κ → Value) (d : ν → Value) (l : List (κ × ν)) (idx : List Nat) : Prop where
  map : MapB w b c d l
  it : ∃ c0, w.heap[r]? = some (.mapIter (some b) l.length idx.toArray c0) ∧ l.length ≤ c0
  nd : idx.Nodup
  lt : ∀ i ∈ idx, i < l.length

variable {w w' : World} {b r : Nat} {c : κ → Value} {d : ν → Value} {l : List (κ × ν)} {idx : List Nat}
theorem MapR.rlt (h : MapR w b r c d l idx) : r < w.heap.size := by
  obtain ⟨c0, h1, -⟩ := h.it; exact (Array.getElem?_eq_some_iff.1 h1).1
theorem MapR.ne (h : MapR w b r c d l idx) : r ≠ b := by
  obtain ⟨c0, h1, -⟩ := h.it
  intro e; rw [e, h.map.blk] at h1; cases h1
theorem MapR.kept (h : MapR w b r c d l idx) {row : Option Nat} (hg : w.grownBy w' row) (hb : some b ≠ row) (hr : some r ≠ row) : MapR w' b r c d l idx := by
  have hl := h.rlt
  obtain ⟨c0, h1, h2⟩ := h.it
  exact ⟨h.map.grown hg hb, ⟨c0, (hg.block r hl hr).trans h1, h2⟩, h.nd, h.lt⟩
theorem MapR.below (h : MapR w b r c d l idx) {B : Nat} (hb : Below B w w') (hB : w.heap.size ≤ B) : MapR w' b r c d l idx := by
  have hl := h.rlt
  obtain ⟨c0, h1, h2⟩ := h.it
  exact ⟨h.map.below hb hB, ⟨c0, (hb.block r (by omega)).trans h1, h2⟩, h.nd, h.lt⟩
theorem MapR.setCell (h : MapR w b r c d l idx) {a : Addr} (hb : b ≠ a.block) (hr : r ≠ a.block) (u : Value) : MapR (w.setCell a u) b r c d l idx := by
  obtain ⟨c0, h1, h2⟩ := h.it
  exact ⟨h.map.setCell hb u, ⟨c0, (Below.heap_setCell _ _ _ _ hr).trans h1, h2⟩, h.nd, h.lt⟩
theorem MapR.len (h : MapR w b r c d l idx) : idx.length ≤ l.length := nodup_ltR h.nd h.lt

/-- how many have been handed out, read off the world -/
def itLen (w : World) (r : Nat) : Nat := match w.heap[r]? with | some (.mapIter _ _ seen _) => seen.size | _ => 0
theorem MapR.itLen (h : MapR w b r c d l idx) : itLen w r = idx.length := by
  obtain ⟨c0, h1, -⟩ := h.it
  simp [Proofs.YtkmnacchiagipaaDoor.itLen, h1]
theorem mapEs_mem {e : MapEntry} (h : e ∈ mapEs c d l) : ∃ (hi : e.born < l.length), e = ⟨c l[e.born].1, d l[e.born].2, e.born⟩ := by
  obtain ⟨i, hi⟩ := List.getElem?_of_mem h
  have hl : i < l.length := by
    rcases Nat.lt_or_ge i l.length with k | k
    · exact k
    · rw [List.getElem?_eq_none (by rw [mapEs_len]; exact k)] at hi; cases hi
  rw [mapEs_get c d l i hl] at hi
  injection hi with hi; subst hi
  exact ⟨hl, rfl⟩
theorem mapEs_born (c : κ → Value) (d : ν → Value) (l : List (κ × ν)) : (mapEs c d l).map (·.born) = List.range l.length := by
  apply List.ext_getElem?
  intro i
  rw [List.getElem?_map]
  rcases Nat.lt_or_ge i l.length with k | k
  · rw [mapEs_get c d l i k]; simp [k]
  · rw [List.getElem?_eq_none (by rw [mapEs_len]; exact k)]; simp [k]

variable {P : Program} {t k e : TypeId}
theorem run_range_x (h : MapB w b c d l) (ht : P.underlying t = some (.map k e)) :
    (Instr.range t (.map (some b))).run P w = .ok (.pointer (some ⟨w.heap.size, 0, none⟩)) (w.alloc (.mapIter (some b) l.length #[] l.length)) :=
  run_range_map w t k e b _ _ ht h.blk
theorem MapR.start (h : MapB w b c d l) : MapR (w.alloc (.mapIter (some b) l.length #[] l.length)) b w.heap.size c d l [] :=
  ⟨h.alloc _, ⟨_, heap_alloc_new w _, Nat.le_refl _⟩, List.nodup_nil, fun i hi => absurd hi (by simp)⟩

theorem MapR.next (h : MapR w b r c d l idx) (ty : TypeId) :
    ((∀ i, i < l.length → i ∈ idx) ∧ (Instr.next (.pointer (some ⟨r, 0, none⟩)) false ty).run P w = .ok (.tuple #[.bool false]) w) ∨
    ∃ (i : Nat) (hi : i < l.length) (w' : World), i ∉ idx ∧ (Instr.next (.pointer (some ⟨r, 0, none⟩)) false ty).run P w = .ok (.tuple #[.bool true, c l[i].1, d l[i].2]) w' ∧ MapR w' b r c d l (idx ++ [i]) ∧ w.grownBy w' (some r) ∧ w'.heap.size = w.heap.size ∧
      (Instr.entry (.pointer (some ⟨r, 0, none⟩))).run P w' = .ok (.tuple #[c l[i].1, d l[i].2]) w' := by
  have hne := h.ne
  obtain ⟨c0, hr, hc⟩ := h.it
  have hb := h.map.blk
  unfold mapObj at hb
  rcases run_next_at (P := P) w ty r b l.length c0 idx.toArray _ _ hr hb (fun x hx => by obtain ⟨hi, -⟩ := mapEs_mem (l := l) (c := c) (d := d) (by simpa using hx); exact hi) hc with ⟨h0, hrun⟩ | ⟨e, he, w1, hal, hrun⟩
  · refine .inl ⟨fun i hi => ?_, hrun⟩
    have := all_seen _ _ h0 ⟨c l[i].1, d l[i].2, i⟩ (by rw [List.toList_toArray]; exact List.mem_of_getElem? (mapEs_get c d l i hi))
    simpa using this
  · obtain ⟨hem, hes⟩ := mem_left he
    obtain ⟨hi, hee⟩ := mapEs_mem (l := l) (c := c) (d := d) (by simpa using hem)
    generalize hj : e.born = j at *
    subst hee
    have hr1 : w1.heap[r]? = some (.mapIter (some b) l.length idx.toArray c0) := by rcases hal with rfl | rfl <;> exact hr
    have hb1 : w1.heap[b]? = some (.map (mapEs c d l).toArray l.length) := by rcases hal with rfl | rfl <;> exact hb
    have hset := setBlock_b (o' := .mapIter (some b) l.length (idx.toArray.push j) l.length) hr1
    have hb' : (setBlock w1 r (.mapIter (some b) l.length (idx.toArray.push j) l.length)).heap[b]? = some (.map (mapEs c d l).toArray l.length) := (setBlock_ne (fun e1 => hne e1.symm)).trans hb1
    have hjn : j ∉ idx := fun hm => by have : idx.toArray.contains j = true := by simpa using hm
                                       rw [this] at hes; cases hes
    refine .inr ⟨j, hi, _, hjn, hrun, ⟨⟨hb', h.map.nd⟩, ⟨_, by rw [hset]; simp, Nat.le_refl _⟩, ?_, ?_⟩, ?_, ?_, ?_⟩
    · exact List.nodup_append.2 ⟨h.nd, by simp, by intro a ha b' hb''; simp at hb''; subst hb''; intro e; subst e; exact hjn ha⟩
    · intro i hm
      rcases List.mem_append.1 hm with hm | hm
      · exact h.lt i hm
      · simp at hm; omega
    · rcases hal with rfl | rfl <;> exact ⟨rfl, rfl, rfl, by simp [setBlock], fun i _ hi => setBlock_ne (fun e1 => hi (by rw [e1]))⟩
    · rcases hal with rfl | rfl <;> simp [setBlock]
    · exact run_entry_at _ r b l.length idx.toArray _ _ ⟨c l[j].1, d l[j].2, j⟩ hset hb' (by rw [List.toList_toArray]; exact List.mem_of_getElem? (mapEs_get c d l j hi)) (by rw [List.toList_toArray, mapEs_born]; exact List.nodup_range)

variable {ops : Array Oper} {rest : List Oper} {o : Oper} {a : Act} {Q : Exit → Act → World → Prop}
theorem wpList_range_x {m : Operand} (hg : o.guard = none) (hop : o.op = Op.range t m) (ht : P.underlying t = some (.map k e)) (hm : a.eval m = .map (some b)) (h : MapB w b c d l)
    (hK : ∀ w', MapR w' b w.heap.size c d l [] → Below w.heap.size w w' → w'.heap.size = w.heap.size + 1 → wpList P ops Q rest (a.put o.dst (.pointer (some ⟨w.heap.size, 0, none⟩))) w') :
    wpList P ops Q (o :: rest) a w := by
  refine wpList_plain hg fun K' hK' => ?_
  unfold Oper.wp
  simp [execOp, hop, hm, run_range_x h ht, Result.andThen]
  exact hK' _ _ (hK _ (MapR.start h) ((Below.refl _ _).alloc (Nat.le_refl _) _) (by simp))
theorem wpList_next_x {it : Operand} (hg : o.guard = none) (hop : o.op = Op.next it false) (hit : a.eval it = .pointer (some ⟨r, 0, none⟩)) (h : MapR w b r c d l idx)
    (hDone : (∀ i, i < l.length → i ∈ idx) → wpList P ops Q rest (a.put o.dst (.tuple #[.bool false])) w)
    (hMore : ∀ (i : Nat) (hi : i < l.length) (w' : World), i ∉ idx → MapR w' b r c d l (idx ++ [i]) → w.grownBy w' (some r) → w'.heap.size = w.heap.size → (Instr.entry (.pointer (some ⟨r, 0, none⟩))).run P w' = .ok (.tuple #[c l[i].1, d l[i].2]) w' →
      wpList P ops Q rest (a.put o.dst (.tuple #[.bool true, c l[i].1, d l[i].2])) w') :
    wpList P ops Q (o :: rest) a w := by
  refine wpList_plain hg fun K' hK' => ?_
  unfold Oper.wp
  rcases h.next (P := P) o.type with ⟨h0, hrun⟩ | ⟨i, hi, w', h1, hrun, h2, h3, h4, h5⟩
  · simp [execOp, hop, hit, hrun, Result.andThen]
    exact hK' _ _ (hDone h0)
  · simp [execOp, hop, hit, hrun, Result.andThen]
    exact hK' _ _ (hMore i hi w' h1 h2 h3 h4 h5)
end
end Go.Proofs.YtkmnacchiagipaaDoor
