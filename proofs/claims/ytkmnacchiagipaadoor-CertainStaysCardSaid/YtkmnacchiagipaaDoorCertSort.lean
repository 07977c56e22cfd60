/- certain: sets and pairs of labels are put in order. -/
import Derived.Test.YtkmnacchiagipaaDoorCertMem
import Derived.Test.YtkmnacchiagipaaDoorCmp
import Derived.Test.YtkmnacchiagipaaDoorLayS
import Derived.Shelf.SlSortCmp.NoneTotal
import Derived.Shelf.SlSortCmp.QuietGrown
import Derived.Sort.OwnSortedInts
import Derived.BigQuiet
namespace Go.Proofs.YtkmnacchiagipaaDoor
open Go.RowKit Go.Sort

/-- new blocks and draws alone -/
structure BelC (w w' : World) : Prop where
  b : Below w.heap.size w w'
  d : w.drawn ≤ w'.drawn
theorem BelC.refl (w : World) : BelC w w := ⟨Below.refl _ _, Nat.le_refl _⟩
theorem BelC.alloc {w w' : World} (h : BelC w w') (o : Obj) : BelC w (w'.alloc o) := ⟨h.b.alloc h.b.size o, h.d⟩
theorem BelC.drew {w w' : World} (h : BelC w w') : BelC w w'.drew := ⟨h.b.drew, Nat.le_succ_of_le h.d⟩
theorem BelC.grow {w w' : World} (h : BelC w w') : ∃ q os', w' = Sort.grow (w.drewN q) os' := by
  refine ⟨w'.drawn - w.drawn, w'.heap.extract w.heap.size w'.heap.size, ?_⟩
  obtain ⟨⟨h1, h2, h3, h4, h5⟩, h6⟩ := h
  obtain ⟨hp, tp, dr, os, ou⟩ := w
  obtain ⟨hp', tp', dr', os', ou'⟩ := w'
  simp only at h1 h2 h3 h4 h5 h6
  subst h1 h2 h3
  unfold Sort.grow World.drewN
  simp only [World.mk.injEq, true_and, and_true]
  refine ⟨?_, by omega⟩
  apply Array.ext'
  apply List.ext_getElem?
  intro i
  have hx := h5 i
  simp only [Array.getElem?_toList, Array.toList_append] at *
  rcases Nat.lt_or_ge i hp.size with h | h
  · rw [← Array.toList_append]; simp only [Array.getElem?_toList]
    rw [Array.getElem?_append_left h, hx h]
  · rw [← Array.toList_append]; simp only [Array.getElem?_toList]
    rw [Array.getElem?_append_right h, Array.getElem?_extract]
    split
    · congr 1; omega
    · rw [Array.getElem?_eq_none]; omega

section
variable {α : Type} [Inhabited α]
theorem flat_two (enc : α → List Value) (hk : ∀ x, (enc x).length = 2) (l : List α) : flatK enc 2 l.toArray = (l.flatMap enc).toArray := by
  have hlen : ∀ l : List α, (l.flatMap enc).length = l.length * 2 := fun l => by
    induction l with
    | nil => rfl
    | cons a l ih => rw [List.flatMap_cons, List.length_append, ih, hk, List.length_cons]; omega
  apply Array.ext'
  apply List.ext_getElem?
  intro t
  rw [Array.getElem?_toList]
  rcases Nat.lt_or_ge t (l.length * 2) with h | h
  · have hi : t / 2 < l.length := by omega
    have e := flatMap_at enc 2 hk l (t / 2) hi (t % 2) (by omega)
    rw [show t / 2 * 2 + t % 2 = t by omega] at e
    have hs : t < (flatK enc 2 l.toArray).size := by simp; omega
    rw [Array.getElem?_eq_getElem hs]
    have h1 := get_flatK enc 2 l.toArray t (by simpa using h)
    rw [getElem!_pos _ t hs] at h1
    rw [h1]
    show _ = (l.flatMap enc)[t]?
    rw [e]
    have h2 : l.toArray[t / 2]! = l[t / 2] := by rw [getElem!_pos l.toArray (t / 2) (by simpa using hi)]; simp
    rw [h2]
    have h3 : t % 2 < (enc l[t / 2]).length := by rw [hk]; omega
    rw [getElem!_pos (enc l[t / 2]) (t % 2) h3, List.getElem?_eq_getElem h3]
  · rw [Array.getElem?_eq_none (by simp; omega)]
    show _ = (l.flatMap enc)[t]?
    rw [List.getElem?_eq_none (by rw [hlen]; exact h)]
omit [Inhabited α] in
theorem flat_len (enc : α → List Value) (hk : ∀ x, (enc x).length = 2) (l : List α) : (l.flatMap enc).length = l.length * 2 := by
  induction l with
  | nil => rfl
  | cons a l ih => rw [List.flatMap_cons, List.length_append, ih, hk, List.length_cons]; omega
theorem holds_two (enc : α → List Value) (hk : ∀ x, (enc x).length = 2) {w : World} {g : Nat} {cur : Array Value} {e : TypeId} {l : List α} (hb : w.heap[g]? = some (.cells cur e (0, 0))) (ht : cur.toList.take (l.length * 2) = l.flatMap enc) : HoldsK enc 2 w g 0 l.toArray := by
  unfold HoldsK
  rw [flat_two enc hk]
  intro j hj
  have hj' : j < (l.flatMap enc).length := by simpa using hj
  have hj2 : j < l.length * 2 := by rw [flat_len enc hk] at hj'; exact hj'
  refine ⟨?_, by simp [World.frozen?, hb]⟩
  have h1 : (cur.toList.take (l.length * 2))[j]? = (l.flatMap enc)[j]? := by rw [ht]
  rw [List.getElem?_take_of_lt hj2] at h1
  simp only [World.cell?, hb, Nat.zero_add]
  simp only [Option.isSome_none, Bool.false_eq_true, if_false]
  rw [← Array.getElem?_toList, h1]
  rw [getElem!_pos _ j (by simpa using hj')]
  simp
theorem heap_rowC {w : World} {g n : Nat} {os : Array Obj} {cur : Array Value} {e : TypeId} {fr : Nat × Nat} (d : Array Value) (hb : w.heap[g]? = some (.cells cur e fr)) :
    (Sort.grow (putRow id (Sort.ahead w n) g 0 d) os).heap[g]? = some (.cells (putCells id 0 d cur) e fr) := by
  have hg : g < w.heap.size := (Array.getElem?_eq_some_iff.1 hb).1
  rw [heap_grow_old _ _ (by simpa using hg)]
  simp [putRow, mapBlock, Sort.ahead, Array.getElem?_modify, hb, onCells]
theorem below_rowC {w : World} {g n B : Nat} {os : Array Obj} (d : Array Value) (hg : B ≤ g) (hB : B ≤ w.heap.size) : Below B w (Sort.grow (putRow id (Sort.ahead w n) g 0 d) os) := by
  refine ⟨rfl, rfl, rfl, by simp, fun k hk => ?_⟩
  rw [heap_grow_old _ _ (by simp; omega)]
  have : g ≠ k := by omega
  simp [putRow, mapBlock, Sort.ahead, Array.getElem?_modify, this]
theorem take_rowC (cur : Array Value) (ts : List Value) (h : ts.length ≤ cur.size) : (putCells id 0 ts.toArray cur).toList.take ts.length = ts := by
  apply List.ext_getElem?
  intro j
  by_cases hj : j < ts.length
  · rw [List.getElem?_take_of_lt hj, Array.getElem?_toList]
    simp [putCells, hj, show j < cur.size by omega]
  · rw [List.getElem?_take_eq_none (by omega), List.getElem?_eq_none (by omega)]
theorem sorted_out {cf : α → α → Int} {d d' : Array α} (hp : PermIn 0 d.size d d') (hs : SortedIn (ltOf cf) 0 d.size d') : d'.toList.Perm d.toList ∧ d'.toList.Pairwise fun a b => ltOf cf b a = false := by
  obtain ⟨h1, -, h2⟩ := hp
  have e1 : d'.extract 0 d.size = d' := by rw [← h1]; simp
  have e2 : d.extract 0 d.size = d := by simp
  rw [e1, e2] at h2
  refine ⟨h2, List.pairwise_iff_getElem.2 fun i j hi hj hij => ?_⟩
  have hi' : i < d'.size := by simpa using hi
  have hj' : j < d'.size := by simpa using hj
  have := hs i j (Nat.zero_le _) hij (by omega)
  rw [getElem!_pos d' i hi', getElem!_pos d' j hj'] at this
  simpa using this
/-- a row of the call's own, sorted -/
theorem row_sorted (enc : α → List Value) (hk : ∀ x, (enc x).length = 2) {ty : TypeId} {w : World} {B g cap : Nat} {cur : Array Value} {l : List α} (hbg : B ≤ g) (hB : B ≤ w.heap.size) (hg : w.heap[g]? = some (.cells cur ty (0, 0))) (h1 : l.length ≤ cap) (h2 : cap ≤ maxLen) (h3 : cur.size = cap * 2) {n : Nat} {os : Array Obj} {d' : Array α} (hp : d'.toList.Perm l) :
    (sortWorldK enc 2 w g 0 n d' os).ownsRow B ty 2 (.slice (some ⟨g, 0, none⟩) l.length cap) l.length (d'.toList.flatMap enc) ∧ Below B w (sortWorldK enc 2 w g 0 n d' os) := by
  have hl := hp.length_eq
  have hlen : (d'.toList.flatMap enc).length = l.length * 2 := by rw [flat_len enc hk, hl]
  have ef : flatK enc 2 d' = (d'.toList.flatMap enc).toArray := by
    have := flat_two enc hk d'.toList
    simpa using this
  unfold sortWorldK putRowK
  rw [ef]
  refine ⟨⟨by rw [hlen], .inr ⟨g, cap, _, rfl, hbg, heap_rowC _ hg, h1, h2, by simp [putCells, h3], ?_⟩⟩, below_rowC _ hbg hB⟩
  rw [← hlen]
  exact take_rowC cur _ (by rw [hlen, h3]; omega)
end

theorem Rd.of_blk2 (w : World) (x y : Int) {g : Nat} (hg : g = w.heap.size) : Rd (w.alloc (.cells #[.int .i64 x, .int .i64 y] 3)) (some ⟨g, 0, none⟩) 2 1 (icells [x, y]) := by
  subst hg
  refine ⟨rfl, rdy_some _ _ _, fun j hj => ?_⟩
  simp only [blk_some, ofs_some, Nat.zero_add]
  have h := (Blk.new w #[.int .i64 x, .int .i64 y] 3).cell j
  rw [h]
  match j, hj with
  | 0, _ => rfl
  | 1, _ => rfl
/-! ### parts of a set -/
abbrev cfP (x y : Int × Int) : Int := cmp3 x.1 y.1
theorem cmp3_lt (a b : Int) : cmp3 a b < 0 ↔ a < b := by
  unfold cmp3
  split
  · constructor <;> intro h <;> omega
  · split <;> constructor <;> intro h <;> omega
theorem ltPt (x y : Int × Int) : ltOf cfP x y = true ↔ x.1 < y.1 := by
  unfold ltOf
  rw [decide_eq_true_iff]
  exact cmp3_lt _ _
theorem ltP (x y : Int × Int) : ltOf cfP x y = false ↔ y.1 ≤ x.1 := by
  rw [← Bool.not_eq_true, ltPt]; omega
theorem swoP : Go.Sort.SWO (ltOf cfP) where
  irrefl x := (ltP x x).2 (Int.le_refl _)
  trans x y z p q := (ltPt x z).2 (Int.lt_trans ((ltPt x y).1 p) ((ltPt y z).1 q))
  ntrans x y z p q := (ltP x z).2 (Int.le_trans ((ltP y z).1 q) ((ltP x y).1 p))
set_option maxRecDepth 100000 in
set_option maxHeartbeats 4000000 in
theorem part_fn (x y : Int × Int) (w : World) : Calls Tryd.prog 94 #[.agg #[.int .i64 x.1, .int .i64 x.2], .agg #[.int .i64 y.1, .int .i64 y.2]] w fun e w' => e = .returned (.int .i64 (cfP x y)) ∧ BelC w w' := by
  go_enter Tryd.func94, Tryd.ntmps94
  go_wp2_with fail
  refine (Compare_any _ _ _).mono ?_; rintro e w_ ⟨rfl, rfl⟩
  go_wp2_with fail
  go_ret
  exact ⟨rfl, ((BelC.refl w).alloc _).alloc _⟩
theorem part_lays (g size : Nat) (w : World) : CmpLays Tryd.prog 94 #[] twoC 2 cfP g 0 size w := by
  intro m os dk _ x y
  exact (part_fn x y _).mono fun _ _ h => ⟨h.1, h.2.grow⟩
set_option maxRecDepth 100000 in
set_option maxHeartbeats 4000000 in
theorem sort_parts (v : Value) (l : List (Int × Int)) (B : Nat) (w : World) (ho : OwnTwos 130 w B v l) (hne : l ≠ []) (hl : l.length ≤ 1000000) (hB : B ≤ w.heap.size) :
    Calls Tryd.prog 93 #[v, .func (.func 94) #[] #[]] w fun e w' => e = .returned (.tuple #[]) ∧ ∃ l' : List (Int × Int), l'.Perm l ∧ l'.Pairwise (fun a b => a.1 ≤ b.1) ∧ OwnTwos 130 w' B v l' ∧ Below B w w' := by
  rcases ho.2 with ⟨rfl, hn⟩ | ⟨g, cap, cur, rfl, hbg, hg, h1, h2, h3, h5⟩
  · exact absurd (List.eq_nil_of_length_eq_zero hn) hne
  · have hgl : g < w.heap.size := (Array.getElem?_eq_some_iff.1 hg).1
    have hk : ∀ x : Int × Int, (twoC x).length = 2 := fun _ => rfl
    have hlim : Lib.bitLen l.length < 4611686018427387904 := Nat.lt_of_le_of_lt (Lib.bitLen_le l.length 62 (by omega) (by omega)) (by omega)
    have hH := holds_two twoC hk hg h5
    have hv1 : ∀ x : Int × Int, ∀ v ∈ twoC x, v.oneCell' = true := fun x v hv => by simp [twoC] at hv; rcases hv with rfl | rfl <;> rfl
    have hp := AnyQ.pdqsortCmpFunc_all Tryd.pdqPart 2 (fun w => by kernel_rfl) (fun w => by kernel_rfl) twoC cfP 94 #[] swoP g 0 cap l.toArray w (fun args w => by simp [go_sem]) (part_lays g _ w) ⟨hk, hv1, hH, hgl⟩ (l.length + 1) 0 l.length (Lib.bitLen l.length) l.toArray w (by omega) rfl (SWK.start hH) (Nat.zero_le _) (by simp) (by simp; omega) hlim (Or.inl rfl)
    have HP : Hid (Calls Tryd.prog 129 #[.slice (some ⟨g, 0, none⟩) l.length cap, .int .i64 0, .int .i64 l.length, .int .i64 (Lib.bitLen l.length : Nat), .func (.func 94) #[] #[]] w fun e w' => e = .returned (.tuple #[]) ∧ SWK twoC 2 w g 0 (pdq (ltOf cfP) l.toArray 0 l.length (Lib.bitLen l.length) true true) w') := Lib.hid (by exact hp)
    have HL : Hid (Calls Tryd.prog 92 #[.int .u64 (l.length : Int)] w fun e w' => e = .returned (.int .i64 (Lib.bitLen l.length : Nat)) ∧ w' = w) := Lib.hid (by
      have h := Any.bits_Len (SlLaysF0.n15.bits (P := Tryd.prog) (ρ := Tryd.sortPair_ren) { Tryd.sortPair with }) (l.length : Int) w (by omega) (by omega)
      rw [Int.toNat_natCast] at h
      exact h)
    have wr : IntKind.u64.wrap (l.length : Int) = l.length := by simp [IntKind.wrap, IntKind.bits, IntKind.signed]; omega
    have HQ := Lib.hid (pdq_sorts (ltOf cfP) swoP l.toArray 0 l.toArray.size (Lib.bitLen l.toArray.size) true true (Nat.zero_le _) (Nat.le_refl _) (Or.inl rfl))
    have HF : Hid (∀ n os d', d'.toList.Perm l → OwnTwos 130 (sortWorldK twoC 2 w g 0 n d' os) B (.slice (some ⟨g, 0, none⟩) l.length cap) d'.toList ∧ Below B w (sortWorldK twoC 2 w g 0 n d' os)) := Lib.hid fun n os d' hpm => by
      have := row_sorted twoC hk hbg hB hg h1 h2 h3 (n := n) (os := os) hpm
      refine ⟨?_, this.2⟩
      show World.ownsRow _ B _ 2 _ d'.toList.length (twosC d'.toList)
      rw [hpm.length_eq]
      exact this.1
    clear hH hp hv1 ho hne h1 h2 h3 h5 hbg hg
    go_enter Tryd.func93, Tryd.ntmps93
    go_wp2_with fail
    refine HL.out.mono ?_; rintro e w_ ⟨rfl, rfl⟩
    go_wp2_with fail
    refine HP.out.mono ?_; rintro e w1 ⟨rfl, hS⟩
    have HS := Lib.hid hS
    clear hS
    go_wp2_with fail
    go_end0
    obtain ⟨n, os, rfl⟩ := HS.out
    obtain ⟨k1, k2⟩ := sorted_out HQ.out.1 HQ.out.2
    have e : l.toArray.size = l.length := by simp
    rw [e] at k1 k2
    obtain ⟨k3, k4⟩ := HF.out n os _ (by simpa using k1)
    exact ⟨rfl, _, by simpa using k1, k2.imp fun h => (ltP _ _).1 h, k3, k4⟩

/-! ### pairs of labels -/
abbrev FF := Fin 2048 × Fin 2048
def ofF (p : FF) : Int × Int := ((p.1.val : Int), (p.2.val : Int))
def toF (p : Int × Int) : FF := (Fin.ofNat 2048 p.1.toNat, Fin.ofNat 2048 p.2.toNat)
theorem of_toF {p : Int × Int} (h : (0 ≤ p.1 ∧ p.1 ≤ 1000) ∧ 0 ≤ p.2 ∧ p.2 ≤ 1000) : ofF (toF p) = p := by
  obtain ⟨a, b⟩ := p
  simp only at h
  simp only [ofF, toF, Fin.val_ofNat]
  rw [Nat.mod_eq_of_lt (by omega), Nat.mod_eq_of_lt (by omega)]
  exact Prod.ext (by simp only; omega) (by simp only; omega)
def encF (p : FF) : List Value := twoC (ofF p)
theorem flat_encF (l : List FF) : l.flatMap encF = twosC (l.map ofF) := by
  induction l with
  | nil => rfl
  | cons a l ih => simp only [List.flatMap_cons, List.map_cons, twosC, ih]; rfl
abbrev cfF (x y : FF) : Int := firstOf [(x.1.val : Int) - y.1.val, (x.2.val : Int) - y.2.val]
theorem cfF_lt (x y : FF) : cfF x y < 0 ↔ keyLt (ofF x) (ofF y) := by
  unfold keyLt ofF
  simp only [cfF, firstOf]
  split
  · split <;> constructor <;> intro h <;> omega
  · constructor <;> intro h <;> omega
theorem ltFt (x y : FF) : ltOf cfF x y = true ↔ keyLt (ofF x) (ofF y) := by
  unfold ltOf
  rw [decide_eq_true_iff]
  exact cfF_lt _ _
theorem ltFf (x y : FF) : ltOf cfF x y = false ↔ ¬ keyLt (ofF x) (ofF y) := by rw [← Bool.not_eq_true, ltFt]
theorem swoF : Go.Sort.SWO (ltOf cfF) where
  irrefl x := (ltFf x x).2 (by unfold keyLt; omega)
  trans x y z p q := by rw [ltFt] at *; unfold keyLt at *; omega
  ntrans x y z p q := by rw [ltFf] at *; unfold keyLt at *; omega
set_option maxRecDepth 100000 in
set_option maxHeartbeats 4000000 in
theorem pair_fn (x y : FF) (w : World) : Calls Tryd.prog 57 #[.agg #[.int .i64 (x.1.val : Int), .int .i64 (x.2.val : Int)], .agg #[.int .i64 (y.1.val : Int), .int .i64 (y.2.val : Int)]] w fun e w' => e = .returned (.int .i64 (cfF x y)) ∧ BelC w w' := by
  have w1 : IntKind.i64.wrap ((x.1.val : Int) - y.1.val) = (x.1.val : Int) - y.1.val := IntWalk.i64_in _ (by omega)
  have w2 : IntKind.i64.wrap ((x.2.val : Int) - y.2.val) = (x.2.val : Int) - y.2.val := IntWalk.i64_in _ (by omega)
  go_enter Tryd.func57, Tryd.ntmps57
  go_wp2_with fail
  refine (Or_any _ 2 2 [(x.1.val : Int) - y.1.val, (x.2.val : Int) - y.2.val] _ (Rd.of_blk2 _ _ _ (by simp)) (by omega)).mono ?_; rintro e w_ ⟨rfl, rfl⟩
  go_wp2_with fail
  go_ret
  exact ⟨rfl, (((BelC.refl w).alloc _).alloc _).alloc _⟩
theorem pair_lays (g size : Nat) (w : World) : CmpLays Tryd.prog 57 #[] encF 2 cfF g 0 size w := by
  intro m os dk _ x y
  exact (pair_fn x y _).mono fun _ _ h => ⟨h.1, h.2.grow⟩
set_option maxRecDepth 100000 in
set_option maxHeartbeats 4000000 in
theorem sort_pairs (v : Value) (l : List (Int × Int)) (B : Nat) (w : World) (ho : OwnTwos 141 w B v l) (hb : ∀ p ∈ l, (0 ≤ p.1 ∧ p.1 ≤ 1000) ∧ 0 ≤ p.2 ∧ p.2 ≤ 1000) (nd : l.Nodup) (hl : l.length ≤ 1000000) (hB : B ≤ w.heap.size) :
    Calls Tryd.prog 56 #[v, .func (.func 57) #[] #[]] w fun e w' => e = .returned (.tuple #[]) ∧ ∃ l' : List (Int × Int), l'.Perm l ∧ l'.Pairwise keyLt ∧ OwnTwos 141 w' B v l' ∧ Below B w w' := by
  rcases ho.2 with ⟨rfl, hn⟩ | ⟨g, cap, cur, rfl, hbg, hg, h1, h2, h3, h5⟩
  · have e : l = [] := List.eq_nil_of_length_eq_zero hn
    subst e
    refine (AnyF.slices_SortFunc_none Tryd.sortPair none 0 _ w).mono fun e w' h => ?_
    obtain ⟨he, rfl⟩ := h
    exact ⟨he, [], List.Perm.refl _, List.Pairwise.nil, ho, Below.refl _ _⟩
  · have hgl : g < w.heap.size := (Array.getElem?_eq_some_iff.1 hg).1
    have hk : ∀ x : FF, (encF x).length = 2 := fun _ => rfl
    have hv1 : ∀ x : FF, ∀ v ∈ encF x, v.oneCell' = true := fun x v hv => by simp [encF, twoC] at hv; rcases hv with rfl | rfl <;> rfl
    have el : (l.map toF).map ofF = l := by
      rw [List.map_map]
      conv => rhs; rw [← List.map_id l]
      exact List.map_congr_left fun p hp => of_toF (hb p hp)
    have hlen : (l.map toF).length = l.length := by simp
    have h5' : cur.toList.take ((l.map toF).length * 2) = (l.map toF).flatMap encF := by rw [flat_encF, el, hlen]; exact h5
    have hH := holds_two encF hk hg h5'
    have := AnyQ.slices_SortFunc Tryd.sortPair 2 (fun w => by kernel_rfl) (fun w => by kernel_rfl) encF hk hv1 cfF swoF 57 #[] g 0 cap (l.map toF).toArray w (fun args w => by simp [go_sem]) (pair_lays g _ w) hH hgl (by simp; omega)
    have es : ((l.map toF).toArray).size = l.length := by simp
    rw [es] at this
    refine Calls.mono this fun e w' h => ?_
    obtain ⟨he, d', n, os, hp, hs, rfl⟩ := h
    rw [← es] at hp hs
    obtain ⟨k1, k2⟩ := sorted_out hp hs
    have k1' : d'.toList.Perm (l.map toF) := by simpa using k1
    obtain ⟨k3, k4⟩ := row_sorted encF hk hbg hB hg (l := l.map toF) (by rw [hlen]; exact h1) h2 h3 (n := n) (os := os) k1'
    have hpm : (d'.toList.map ofF).Perm l := by have := k1'.map ofF; rwa [el] at this
    have hnd := (hpm.nodup_iff).2 nd
    refine ⟨he, d'.toList.map ofF, hpm, ?_, ?_, k4⟩
    · have h6 : (d'.toList.map ofF).Pairwise (fun a b => ¬ keyLt b a) := List.pairwise_map.2 (k2.imp fun h => (ltFf _ _).1 h)
      refine (h6.and hnd).imp fun {a b} h => ?_
      obtain ⟨h7, h8⟩ := h
      obtain ⟨a1, a2⟩ := a
      obtain ⟨b1, b2⟩ := b
      have h9 : ¬ (a1 = b1 ∧ a2 = b2) := fun e => h8 (by rw [e.1, e.2])
      unfold keyLt at h7 ⊢
      simp only at h7 ⊢
      omega
    · show World.ownsRow _ B _ 2 _ _ _
      rw [flat_encF, hlen] at k3
      rw [hpm.length_eq]
      exact k3
end Go.Proofs.YtkmnacchiagipaaDoor
