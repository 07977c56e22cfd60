/- Maps whose keys and elements are coded: what is found, what is put. -/
/- The laws on coded maps, at an operation of the walk and at a step of a region that draws. -/
/- Keys that are places: three numbers. -/
import Derived.Test.YtkmnacchiagipaaDoorSlices
import Derived.MapKept
import Derived.ChangeMaps5
import Derived.Maps.OwnOps
import Derived.Laws.StructEq
namespace Go.Proofs.YtkmnacchiagipaaDoor
open Go.RowKit
open Go.ChangeMaps (setBlock)

/-- keys of type kt that are coded by c: their equality is that of the codes -/
structure KeyOk (P : Program) (kt : TypeId) {κ : Type} [DecidableEq κ] (c : κ → Value) : Prop where
  chk : ∀ (e : Bool) (k : κ) (w : World), (Instr.checkKey e 10000 kt (c k)).run P w = .ok () w
  eq : ∀ (a b : κ) (w : World), (Op.equal kt (c a) (c b)).run P w = .ok (decide (a = b)) w
  stays : ∀ (a : κ), Instr.sameBits 10000 (c a) (c a) = true
  now : ∀ (a b : κ), ∃ d, P.underlying kt = some d ∧ (Instr.sameNow d (c a) (c b) = none ∨ Instr.sameNow d (c a) (c b) = some (decide (a = b)))

section
variable {κ ν : Type}

def mapEs (c : κ → Value) (d : ν → Value) (l : List (κ × ν)) : List MapEntry := l.mapIdx fun i p => ⟨c p.1, d p.2, i⟩
def mapObj (c : κ → Value) (d : ν → Value) (l : List (κ × ν)) : Obj := .map (mapEs c d l).toArray l.length
/-- block b is a map that holds l, in the order in which the keys came -/
structure MapB (w : World) (b : Nat) (c : κ → Value) (d : ν → Value) (l : List (κ × ν)) : Prop where
  blk : w.heap[b]? = some (mapObj c d l)
  nd : (l.map (·.1)).Nodup

theorem mapEs_len (c : κ → Value) (d : ν → Value) (l : List (κ × ν)) : (mapEs c d l).length = l.length := by simp [mapEs]
theorem mapEs_get (c : κ → Value) (d : ν → Value) (l : List (κ × ν)) (i : Nat) (h : i < l.length) : (mapEs c d l)[i]? = some ⟨c l[i].1, d l[i].2, i⟩ := by
  simp [mapEs, h]
theorem MapB.lt {w : World} {b : Nat} {c : κ → Value} {d : ν → Value} {l : List (κ × ν)} (h : MapB w b c d l) : b < w.heap.size := (Array.getElem?_eq_some_iff.1 h.blk).1
theorem MapB.kept {w w' : World} {b : Nat} {c : κ → Value} {d : ν → Value} {l : List (κ × ν)} (h : MapB w b c d l) (e : w'.heap[b]? = w.heap[b]?) : MapB w' b c d l := ⟨e.trans h.blk, h.nd⟩
theorem MapB.below {w w' : World} {b : Nat} {c : κ → Value} {d : ν → Value} {l : List (κ × ν)} (h : MapB w b c d l) {B : Nat} (hb : Below B w w') (hB : w.heap.size ≤ B) : MapB w' b c d l := h.kept (hb.block b (by have := h.lt; omega))
theorem MapB.grown {w w' : World} {b : Nat} {c : κ → Value} {d : ν → Value} {l : List (κ × ν)} (h : MapB w b c d l) {row : Option Nat} (hg : w.grownBy w' row) (hne : some b ≠ row) : MapB w' b c d l := h.kept (hg.block b h.lt hne)
theorem MapB.drew {w : World} {b : Nat} {c : κ → Value} {d : ν → Value} {l : List (κ × ν)} (h : MapB w b c d l) : MapB w.drew b c d l := ⟨h.blk, h.nd⟩
theorem MapB.setCell {w : World} {b : Nat} {c : κ → Value} {d : ν → Value} {l : List (κ × ν)} (h : MapB w b c d l) {a : Addr} (ha : b ≠ a.block) (u : Value) : MapB (w.setCell a u) b c d l := h.kept (Below.heap_setCell _ _ _ _ ha)
theorem MapB.alloc {w : World} {b : Nat} {c : κ → Value} {d : ν → Value} {l : List (κ × ν)} (h : MapB w b c d l) (o : Obj) : MapB (w.alloc o) b c d l := h.kept (heap_alloc_old w o h.lt)
theorem MapB.made (w : World) (b : Nat) (hb : b = w.heap.size) (c : κ → Value) (d : ν → Value) : MapB (w.alloc (.map #[] 0)) b c d [] := by
  subst hb; exact ⟨(MapKept.heap_alloc w _).1, by simp⟩
theorem setBlock_b {w : World} {b : Nat} {o o' : Obj} (hb : w.heap[b]? = some o) : (setBlock w b o').heap[b]? = some o' := by
  have hlt := (Array.getElem?_eq_some_iff.1 hb).1
  simp [setBlock, hlt]
theorem setBlock_ne {w : World} {b : Nat} {o' : Obj} {i : Nat} (h : i ≠ b) : (setBlock w b o').heap[i]? = w.heap[i]? := by
  simp [setBlock, Array.getElem?_setIfInBounds_ne (Ne.symm h)]
theorem setBlock_grown {w : World} {b : Nat} (o' : Obj) : w.grownBy (setBlock w b o') (some b) :=
  ⟨rfl, rfl, rfl, by simp [setBlock], fun i _ hi => setBlock_ne (fun e => hi (by rw [e]))⟩

theorem findIdx_born (c : κ → Value) (d : ν → Value) (l : List (κ × ν)) (i : Nat) (hi : i < l.length) : (mapEs c d l).toArray.findIdx? (fun e => (e.born : Int) == (i : Int)) = some i := by
  rw [List.findIdx?_toArray, List.findIdx?_eq_some_iff_getElem]
  refine ⟨by rw [mapEs_len]; exact hi, ?_, ?_⟩
  · simp [mapEs]
  · intro j hj; simp [mapEs]; omega
end

section
variable {κ ν : Type} [DecidableEq κ]

/-- where a key stands among entries, and what it holds -/
def findAt (k : κ) : List (κ × ν) → Nat → Option (Nat × ν)
  | [], _ => none
  | p :: l, i => if k = p.1 then some (i, p.2) else findAt k l (i + 1)
/-- what a key holds -/
def assoc : List (κ × ν) → κ → Option ν
  | [], _ => none
  | p :: l, k => if k = p.1 then some p.2 else assoc l k
/-- the entries when a key is given an element -/
def mput : List (κ × ν) → κ → ν → List (κ × ν)
  | [], k, v => [(k, v)]
  | p :: l, k, v => if k = p.1 then (k, v) :: l else p :: mput l k v

theorem findAt_assoc (k : κ) (l : List (κ × ν)) : ∀ i, (findAt k l i).map (·.2) = assoc l k := by
  induction l with
  | nil => intro i; rfl
  | cons p l ih => intro i; simp only [findAt, assoc]; split
                   · rfl
                   · exact ih _
theorem findAt_shift (k : κ) (l : List (κ × ν)) : ∀ i, findAt k l i = (findAt k l 0).map fun p => (p.1 + i, p.2) := by
  induction l with
  | nil => intro i; rfl
  | cons p l ih =>
    intro i; simp only [findAt]; split
    · simp
    · rw [ih (i + 1), ih (0 + 1)]; cases findAt k l 0 with
      | none => rfl
      | some q => simp; omega
theorem mput_eq (k : κ) (v : ν) (l : List (κ × ν)) : mput l k v = match findAt k l 0 with
    | some (i, _) => l.set i (k, v)
    | none => l ++ [(k, v)] := by
  induction l with
  | nil => rfl
  | cons p l ih =>
    simp only [mput, findAt]; split
    · rfl
    · rw [findAt_shift, ih]; cases findAt k l 0 with
      | none => rfl
      | some q => rfl
theorem findAt_lt (k : κ) (l : List (κ × ν)) {i : Nat} {v : ν} (h : findAt k l 0 = some (i, v)) : ∃ hi : i < l.length, l[i] = (k, v) := by
  induction l generalizing i with
  | nil => cases h
  | cons p l ih =>
    simp only [findAt] at h; split at h
    · rename_i hk; simp at h; obtain ⟨rfl, rfl⟩ := h; exact ⟨by simp, by simp [hk]⟩
    · rw [findAt_shift] at h
      cases hf : findAt k l 0 with
      | none => rw [hf] at h; cases h
      | some q =>
        rw [hf] at h; simp at h; obtain ⟨h1, rfl⟩ := h
        obtain ⟨hq, e⟩ := ih (i := q.1) (by rw [hf])
        subst h1
        exact ⟨by simpa using hq, by simpa using e⟩
theorem assoc_mput (l : List (κ × ν)) (k : κ) (v : ν) (k' : κ) : assoc (mput l k v) k' = if k' = k then some v else assoc l k' := by
  induction l with
  | nil => simp [mput, assoc]
  | cons p l ih =>
    simp only [mput]; split
    · rename_i hk; subst hk; simp only [assoc]; split <;> rfl
    · rename_i hk; simp only [assoc, ih]; split
      · rename_i h2; rw [if_neg (by rw [h2]; exact fun e => hk e.symm)]
      · rfl
theorem assoc_none_iff (l : List (κ × ν)) (k : κ) : assoc l k = none ↔ k ∉ l.map (·.1) := by
  induction l with
  | nil => simp [assoc]
  | cons p l ih => simp only [assoc]; split
                   · rename_i h; simp [h]
                   · rename_i h; simp [ih, h]
theorem mput_keys (l : List (κ × ν)) (k : κ) (v : ν) : (mput l k v).map (·.1) = if k ∈ l.map (·.1) then l.map (·.1) else l.map (·.1) ++ [k] := by
  induction l with
  | nil => simp [mput]
  | cons p l ih =>
    simp only [mput]; split
    · rename_i h; simp [h]
    · rename_i h; simp only [List.map_cons, ih, List.mem_cons, h, false_or]; split <;> simp
theorem mput_nodup {l : List (κ × ν)} (h : (l.map (·.1)).Nodup) (k : κ) (v : ν) : ((mput l k v).map (·.1)).Nodup := by
  rw [mput_keys]; split
  · exact h
  · rename_i hk; exact List.nodup_append.2 ⟨h, by simp, by intro a ha b hb; simp at hb; subst hb; intro e; subst e; exact hk ha⟩
theorem mput_len (l : List (κ × ν)) (k : κ) (v : ν) : (mput l k v).length = if k ∈ l.map (·.1) then l.length else l.length + 1 := by
  have := congrArg List.length (mput_keys l k v)
  rw [List.length_map] at this
  rw [this]; split <;> simp

variable {P : Program} {kt : TypeId} {c : κ → Value} {d : ν → Value}

theorem findAsking_x (K : KeyOk P kt c) (k : κ) (w : World) (f : Nat → Nat) : ∀ (l : List (κ × ν)) (i : Nat), (Instr.findAsking kt (c k) (l.mapIdx fun j p => ⟨c p.1, d p.2, f j⟩) i).run P w = .ok ((findAt k l i).map fun q => (q.1, d q.2)) w := by
  intro l
  induction l generalizing f with
  | nil => intro i; simp [Instr.findAsking, findAt]
  | cons p l ih =>
    intro i
    simp only [List.mapIdx_cons, Instr.findAsking, findAt, Sem.run_bind, K.eq k p.1 w, Result.andThen_ok]
    by_cases e1 : k = p.1
    · simp [e1]
    · simp only [e1, decide_false, Bool.false_eq_true, if_false]
      exact ih (fun j => f (j + 1)) (i + 1)
theorem findNow_x (K : KeyOk P kt c) {t : TypeDesc} (ht : P.underlying kt = some t) (k : κ) (f : Nat → Nat) : ∀ (l : List (κ × ν)) (i : Nat),
    Instr.findNow t (c k) (l.mapIdx fun j p => ⟨c p.1, d p.2, f j⟩) i = none ∨ Instr.findNow t (c k) (l.mapIdx fun j p => ⟨c p.1, d p.2, f j⟩) i = some ((findAt k l i).map fun q => (q.1, d q.2)) := by
  intro l
  induction l generalizing f with
  | nil => intro i; right; rfl
  | cons p l ih =>
    intro i
    simp only [List.mapIdx_cons, Instr.findNow, findAt]
    obtain ⟨t', ht', hn⟩ := K.now k p.1
    rw [ht] at ht'; cases ht'
    rcases hn with hn | hn
    · left; rw [hn]
    · rw [hn]
      by_cases e1 : k = p.1
      · right; simp [e1]
      · simp only [e1, decide_false, if_false]
        exact ih (fun j => f (j + 1)) (i + 1)
theorem findKey_x (K : KeyOk P kt c) (k : κ) (l : List (κ × ν)) (w : World) : (Instr.findKey kt (c k) (mapEs c d l)).run P w = .ok ((findAt k l 0).map fun q => (q.1, d q.2)) w := by
  obtain ⟨t, ht, -⟩ := K.now k k
  simp only [Instr.findKey, Sem.run_bind, run_underlying ht, Result.andThen_ok]
  rcases findNow_x (d := d) K ht k id l 0 with hn | hn
  · simp only [id_eq] at hn
    unfold mapEs
    rw [hn]; exact findAsking_x (d := d) K k w id l 0
  · simp only [id_eq] at hn
    unfold mapEs
    rw [hn]; rfl
theorem stays_x (K : KeyOk P kt c) (k : κ) (w : World) : (Instr.keyThatStays (c k) (c k)).run P w = .ok (c k) w := by
  simp [Instr.keyThatStays, K.stays k]

section
variable {w : World} {b : Nat} {l : List (κ × ν)} {t e : TypeId}

theorem run_lookup_x (h : MapB w b c d l) (K : KeyOk P kt c) (ht : P.underlying t = some (.map kt e)) (k : κ) (ok : Bool) {z : Value} (hz : (zeroValue e).run P w = .ok z w) :
    (Instr.lookup t (.map (some b)) (c k) ok).run P w = .ok (if ok then .tuple #[((assoc l k).map d).getD z, .bool (assoc l k).isSome] else ((assoc l k).map d).getD z) w := by
  have hb : w.heap[b]? = some (.map (mapEs c d l).toArray l.length) := h.blk
  simp only [Instr.lookup, Sem.run_bind, run_underlying ht, Result.andThen_ok, MapKept.run_getObj_map hb, K.chk]
  rw [← findAt_assoc k l 0]
  cases hg : findAt k l 0 with
  | none => cases ok <;> simp [hz, findKey_x K, hg]
  | some p => cases ok <;> simp [findKey_x K, hg]

theorem mapObj_put_some {k : κ} {v v0 : ν} {i : Nat} (hf : findAt k l 0 = some (i, v0)) : Obj.map ((mapEs c d l).toArray.modify i fun e => { e with key := c k, val := d v }) l.length = mapObj c d (mput l k v) := by
  obtain ⟨hi, hp⟩ := findAt_lt k l hf
  unfold mapObj
  rw [mput_eq, hf]
  simp only [List.length_set]
  congr 1
  apply Array.ext_getElem?
  intro j
  simp only [Array.getElem?_modify, List.getElem?_toArray]
  by_cases hj : i = j
  · subst hj
    rw [mapEs_get c d l i hi, mapEs_get c d _ i (by simpa using hi)]
    simp
  · rw [if_neg hj]
    simp only [mapEs, List.getElem?_mapIdx]
    rw [List.getElem?_set_ne hj]
theorem mapObj_put_none {k : κ} {v : ν} (hf : findAt k l 0 = none) : Obj.map ((mapEs c d l).toArray.push ⟨c k, d v, l.length⟩) (l.length + 1) = mapObj c d (mput l k v) := by
  unfold mapObj
  rw [mput_eq, hf]
  simp only [List.length_append, List.length_singleton]
  congr 1
  simp [mapEs, List.mapIdx_append]

theorem run_mapUpdate_x (h : MapB w b c d l) (K : KeyOk P kt c) (ht : P.underlying t = some (.map kt e)) (k : κ) (v : ν) :
    (Instr.mapUpdate t (.map (some b)) (c k) (d v)).run P w = .ok () (setBlock w b (mapObj c d (mput l k v))) := by
  have hb : w.heap[b]? = some (.map (mapEs c d l).toArray l.length) := h.blk
  simp only [Instr.mapUpdate, Sem.run_bind, run_underlying ht, Result.andThen_ok, MapKept.run_getObj_map hb, K.chk, findKey_x K]
  cases hf : findAt k l 0 with
  | none =>
    simp only [Option.map_none, MapKept.run_setObj_map _ hb]
    rw [mapObj_put_none hf]; rfl
  | some p =>
    obtain ⟨i, v0⟩ := p
    obtain ⟨hi, hp⟩ := findAt_lt k l hf
    have hs : (((mapEs c d l).toArray[i]?).map (·.key)).getD (c k) = c k := by simp [mapEs_get c d l i hi, hp]
    simp only [Option.map_some, Sem.run_bind, hs, stays_x K, Result.andThen_ok, MapKept.run_setObj_map _ hb]
    rw [mapObj_put_some (v := v) hf]; rfl

theorem MapB.put (h : MapB w b c d l) (k : κ) (v : ν) : MapB (setBlock w b (mapObj c d (mput l k v))) b c d (mput l k v) := ⟨setBlock_b h.blk, mput_nodup h.nd k v⟩

/-- 'm[k] op= x': the entry, to which a store follows; z: the element's zero -/
theorem run_mapEntry_x (h : MapB w b c d l) (K : KeyOk P kt c) (ht : P.underlying t = some (.map kt e)) (k : κ) (z : ν) (hz : (zeroValue e).run P w = .ok (d z) w) :
    ∃ i, (Instr.mapEntry t (.map (some b)) (c k)).run P w = .ok (.tuple #[d ((assoc l k).getD z), .int .i64 (i : Nat)]) (setBlock w b (mapObj c d (mput l k ((assoc l k).getD z)))) ∧
      (∃ hi : i < (mput l k ((assoc l k).getD z)).length, (mput l k ((assoc l k).getD z))[i].1 = k) := by
  have hb : w.heap[b]? = some (.map (mapEs c d l).toArray l.length) := h.blk
  have ha := findAt_assoc k l 0
  cases hf : findAt k l 0 with
  | none =>
    rw [hf] at ha
    refine ⟨l.length, ?_, ?_⟩
    · simp only [Instr.mapEntry, Sem.run_bind, run_underlying ht, Result.andThen_ok, MapKept.run_getObj_map hb, K.chk, findKey_x K, hf, Option.map_none, hz, MapKept.run_setObj_map _ hb, Sem.run_pure]
      rw [← ha, mapObj_put_none hf]; rfl
    · rw [mput_eq, hf]; exact ⟨by simp, by simp⟩
  | some p =>
    obtain ⟨i, v0⟩ := p
    obtain ⟨hi, hp⟩ := findAt_lt k l hf
    rw [hf] at ha
    have hv : (assoc l k).getD z = v0 := by rw [← ha]; rfl
    have hs : (((mapEs c d l).toArray[i]?).map (·.key)).getD (c k) = c k := by simp [mapEs_get c d l i hi, hp]
    have hn : (((mapEs c d l).toArray[i]?).map (fun x => (x.born : Int))).getD 0 = i := by simp [mapEs_get c d l i hi]
    have hm : Obj.map ((mapEs c d l).toArray.modify i fun e => { e with key := c k }) l.length = mapObj c d (mput l k v0) := by
      rw [← mapObj_put_some (v := v0) hf]
      congr 1
      apply Array.ext_getElem?
      intro j
      simp only [Array.getElem?_modify, List.getElem?_toArray]
      by_cases hj : i = j
      · subst hj; rw [mapEs_get c d l i hi]; simp [hp]
      · simp [hj]
    refine ⟨i, ?_, ?_⟩
    · simp only [Instr.mapEntry, Sem.run_bind, run_underlying ht, Result.andThen_ok, MapKept.run_getObj_map hb, K.chk, findKey_x K, hf, Option.map_some, hs, stays_x K, MapKept.run_setObj_map _ hb, Sem.run_pure]
      rw [hv, hn, hm]; rfl
    · rw [hv, mput_eq, hf]; exact ⟨by simpa using hi, by simp⟩

theorem mput_mput (l : List (κ × ν)) (k : κ) (u v : ν) : mput (mput l k u) k v = mput l k v := by
  induction l with
  | nil => simp [mput]
  | cons p l ih =>
    simp only [mput]; split
    · simp [mput]
    · rename_i h; simp [mput, h, ih]
theorem set_of_key {l : List (κ × ν)} (nd : (l.map (·.1)).Nodup) (i : Nat) (hi : i < l.length) (v : ν) : l.set i (l[i].1, v) = mput l l[i].1 v := by
  induction l generalizing i with
  | nil => simp at hi
  | cons p l ih =>
    simp only [List.map_cons, List.nodup_cons] at nd
    cases i with
    | zero => simp [mput]
    | succ i =>
      have hi' : i < l.length := by simpa using hi
      have hne : l[i].1 ≠ p.1 := by
        intro e; exact nd.1 (e ▸ List.mem_map.2 ⟨l[i], List.getElem_mem _, rfl⟩)
      simp only [List.getElem_cons_succ, List.set_cons_succ, mput, hne, if_false]
      rw [ih nd.2 i hi']
theorem run_entryStore_x (h : MapB w b c d l) (t : TypeId) {k : κ} {i : Nat} (hi : ∃ hi : i < l.length, l[i].1 = k) (v : ν) :
    (Instr.entryStore t (.map (some b)) (.int .i64 (i : Nat)) (d v)).run P w = .ok () (setBlock w b (mapObj c d (mput l k v))) := by
  obtain ⟨hi, hk⟩ := hi
  have hb : w.heap[b]? = some (.map (mapEs c d l).toArray l.length) := h.blk
  have hm : Obj.map ((mapEs c d l).toArray.modify i fun e => { e with val := d v }) l.length = mapObj c d (mput l k v) := by
    subst hk
    rw [← set_of_key h.nd i hi]
    unfold mapObj
    simp only [List.length_set]
    congr 1
    apply Array.ext_getElem?
    intro j
    simp only [Array.getElem?_modify, List.getElem?_toArray]
    by_cases hj : i = j
    · subst hj; rw [mapEs_get c d l i hi, mapEs_get c d _ i (by simpa using hi)]; simp
    · rw [if_neg hj]; simp only [mapEs, List.getElem?_mapIdx]; rw [List.getElem?_set_ne hj]
  have ha : (asInt (.int .i64 (i : Nat))).run P w = .ok (i : Int) w := by simp [asInt, asIntOf]
  simp only [Instr.entryStore, Sem.run_bind, Result.andThen_ok, MapKept.run_getObj_map hb, ha, findIdx_born c d l i hi, MapKept.run_setObj_map _ hb]
  rw [hm]; rfl
end
end
end Go.Proofs.YtkmnacchiagipaaDoor

namespace Go.Proofs.YtkmnacchiagipaaDoor
open Go.RowKit
open Go.ChangeMaps (setBlock)

section
variable {κ ν : Type} [DecidableEq κ] {P : Program} {kt t e : TypeId} {c : κ → Value} {d : ν → Value} {w : World} {b : Nat} {l : List (κ × ν)} {ops : Array Oper} {rest : List Oper} {o : Oper} {a : Act} {Q : Exit → Act → World → Prop} {K : Act → World → Prop} {EE : Prop}

theorem wp_lookup_x {m x : Operand} {ok : Bool} (ho : o.op = .lookup t m x ok) (KO : KeyOk P kt c) (ht : P.underlying t = some (.map kt e)) (k : κ) {z : Value} (hz : (zeroValue e).run P w = .ok z w) (hm : a.eval m = .map (some b)) (hx : a.eval x = c k) (h : MapB w b c d l)
    (hK : K (a.put o.dst (if ok then .tuple #[((assoc l k).map d).getD z, .bool (assoc l k).isSome] else ((assoc l k).map d).getD z)) w) : o.wp P a w K Q := by
  unfold Oper.wp
  simp only [execOp, ho, hm, hx, Sem.run_bind, run_lookup_x h KO ht k ok hz, Result.andThen_ok, Sem.run_pure]
  exact hK
theorem wp_mapEntry_x {m x : Operand} (ho : o.op = .mapEntry t m x) (KO : KeyOk P kt c) (ht : P.underlying t = some (.map kt e)) (k : κ) (z : ν) (hz : (zeroValue e).run P w = .ok (d z) w) (hm : a.eval m = .map (some b)) (hx : a.eval x = c k) (h : MapB w b c d l)
    (hK : ∀ (i : Nat) w', MapB w' b c d (mput l k ((assoc l k).getD z)) → w.grownBy w' (some b) → (∃ hi : i < (mput l k ((assoc l k).getD z)).length, (mput l k ((assoc l k).getD z))[i].1 = k) → K (a.put o.dst (.tuple #[d ((assoc l k).getD z), .int .i64 (i : Nat)])) w') : o.wp P a w K Q := by
  obtain ⟨i, hrun, hi⟩ := run_mapEntry_x h KO ht k z hz
  unfold Oper.wp
  simp only [execOp, ho, hm, hx, Sem.run_bind, hrun, Result.andThen_ok, Sem.run_pure]
  exact hK i _ (h.put k _) (setBlock_grown _) hi
theorem wp_entryStore_x {m x y : Operand} (ho : o.op = .entryStore t m x y) {k : κ} {i : Nat} (v : ν) (hm : a.eval m = .map (some b)) (hx : a.eval x = .int .i64 (i : Nat)) (hy : a.eval y = d v) (h : MapB w b c d l) (hi : ∃ hi : i < l.length, l[i].1 = k)
    (hK : ∀ w', MapB w' b c d (mput l k v) → w.grownBy w' (some b) → K (a.put o.dst undef) w') : o.wp P a w K Q := by
  unfold Oper.wp
  simp only [execOp, ho, hm, hx, hy, Sem.run_bind, run_entryStore_x h t hi v, Result.andThen_ok, Sem.run_pure]
  exact hK _ (h.put k v) (setBlock_grown _)
theorem wp_mapUpdate_x {m x y : Operand} (ho : o.op = .mapUpdate t m x y) (KO : KeyOk P kt c) (ht : P.underlying t = some (.map kt e)) (k : κ) (v : ν) (hm : a.eval m = .map (some b)) (hx : a.eval x = c k) (hy : a.eval y = d v) (h : MapB w b c d l)
    (hK : ∀ w', MapB w' b c d (mput l k v) → w.grownBy w' (some b) → K (a.put o.dst undef) w') : o.wp P a w K Q := by
  unfold Oper.wp
  simp only [execOp, ho, hm, hx, hy, Sem.run_bind, run_mapUpdate_x h KO ht k v, Result.andThen_ok, Sem.run_pure]
  exact hK _ (h.put k v) (setBlock_grown _)

abbrev intV (n : Int) : Value := .int .i64 n
theorem wp_lookup_int {l : List (κ × Int)} {m x : Operand} (ho : o.op = .lookup t m x false) (KO : KeyOk P kt c) (ht : P.underlying t = some (.map kt e)) (k : κ) (n : Int) (hz : (zeroValue e).run P w = .ok (.int .i64 0) w) (hm : a.eval m = .map (some b)) (hx : a.eval x = c k) (h : MapB w b c intV l) (hn : (assoc l k).getD 0 = n)
    (hK : K (a.put o.dst (.int .i64 n)) w) : o.wp P a w K Q := by
  refine wp_lookup_x ho KO ht k hz hm hx h ?_
  have e : ((assoc l k).map intV).getD (.int .i64 0) = .int .i64 n := by rw [← hn]; cases assoc l k <;> rfl
  simp only [Bool.false_eq_true, if_false, e]; exact hK
theorem run_lookup_int {l : List (κ × Int)} (KO : KeyOk P kt c) (ht : P.underlying t = some (.map kt e)) (k : κ) (n : Int) (hz : (zeroValue e).run P w = .ok (.int .i64 0) w) (h : MapB w b c intV l) (hn : (assoc l k).getD 0 = n) :
    (Instr.lookup t (.map (some b)) (c k) false).run P w = .ok (.int .i64 n) w := by
  rw [run_lookup_x h KO ht k false hz]
  have e : ((assoc l k).map intV).getD (.int .i64 0) = .int .i64 n := by rw [← hn]; cases assoc l k <;> rfl
  simp only [Bool.false_eq_true, if_false, e]

theorem step_of (hgd : o.guard = none) (h : o.wp P a w K Q) : if Region.wanted o (yielded ops a.tmps) = true then Oper.wp P o a w K Q else EE := by
  rw [if_pos (by simp [Region.wanted, hgd])]; exact h

theorem wpList_lookup_x {m x : Operand} {ok : Bool} (hgd : o.guard = none) (ho : o.op = .lookup t m x ok) (KO : KeyOk P kt c) (ht : P.underlying t = some (.map kt e)) (k : κ) {z : Value} (hz : (zeroValue e).run P w = .ok z w) (hm : a.eval m = .map (some b)) (hx : a.eval x = c k) (h : MapB w b c d l)
    (hK : wpList P ops Q rest (a.put o.dst (if ok then .tuple #[((assoc l k).map d).getD z, .bool (assoc l k).isSome] else ((assoc l k).map d).getD z)) w) : wpList P ops Q (o :: rest) a w :=
  wpList_plain hgd fun _ hK' => wp_lookup_x ho KO ht k hz hm hx h (hK' _ _ hK)
theorem wpList_mapUpdate_x {m x y : Operand} (hgd : o.guard = none) (ho : o.op = .mapUpdate t m x y) (KO : KeyOk P kt c) (ht : P.underlying t = some (.map kt e)) (k : κ) (v : ν) (hm : a.eval m = .map (some b)) (hx : a.eval x = c k) (hy : a.eval y = d v) (h : MapB w b c d l)
    (hK : ∀ w', MapB w' b c d (mput l k v) → w.grownBy w' (some b) → wpList P ops Q rest (a.put o.dst undef) w') : wpList P ops Q (o :: rest) a w :=
  wpList_plain hgd fun _ hK' => wp_mapUpdate_x ho KO ht k v hm hx hy h (fun w' h1 h2 => hK' _ _ (hK w' h1 h2))
end
end Go.Proofs.YtkmnacchiagipaaDoor

namespace Go.Proofs.YtkmnacchiagipaaDoor
open Go.RowKit

theorem zeroInt' (w : World) : (zeroValue 3).run Tryd.prog w = .ok (.int .i64 0) w := by kernel_rfl
abbrev keyPl (k : Nat × Nat × Nat) : Value := .agg #[.int .i64 k.1, .int .i64 k.2.1, .int .i64 k.2.2]
theorem eqPl (a b c a' b' c' : Int) (w : World) : (Op.equalIn 10000 230 (.agg #[.int .i64 a, .int .i64 b, .int .i64 c]) (.agg #[.int .i64 a', .int .i64 b', .int .i64 c'])).run Tryd.prog w = .ok (a == a' && (b == b' && c == c')) w := by
  have u3 := Tryd.underlying3
  have a3 := Tryd.isAgg3
  have z3 := Tryd.sizeOf3
  rw [show (10000 : Nat) = 9999 + 1 from rfl, run_equalIn_struct w _ _ _ _ (by kernel_rfl) (by kernel_rfl)]
  simp only [Program.fieldsOf, Tryd.underlying230]
  simp [Op.eqFields, part, go_sem, u3, a3, z3]
  by_cases h1 : a = a' <;> by_cases h2 : b = b' <;> by_cases h3 : c = c' <;> simp [h1, h2, h3]
theorem keyOkPl : KeyOk Tryd.prog 230 keyPl where
  chk e k w := by cases e <;> kernel_rfl
  eq a b w := by
    obtain ⟨a1, a2, a3⟩ := a; obtain ⟨b1, b2, b3⟩ := b
    show (Op.equalIn 10000 _ _ _).run _ w = _
    rw [eqPl]
    by_cases h1 : a1 = b1 <;> by_cases h2 : a2 = b2 <;> by_cases h3 : a3 = b3 <;> simp [h1, h2, h3] <;> omega
  stays a := by obtain ⟨a1, a2, a3⟩ := a; simp [Instr.sameBits]
  now a b := ⟨_, Tryd.underlying230, .inl rfl⟩
end Go.Proofs.YtkmnacchiagipaaDoor
