/- certain: sets and pairs of labels are put in order. -/
/- certain.settle: the least cost, and what is left. -/
import Derived.Test.YtkmnacchiagipaaDoorCertKeyPl
import Derived.Test.YtkmnacchiagipaaDoorCmp
import Derived.Test.YtkmnacchiagipaaDoorLayS
import Derived.Shelf.SlSortCmp.NoneTotal
import Derived.Shelf.SlSortCmp.QuietGrown
import Derived.Sort.OwnSortedInts
import Derived.BigQuiet
import Derived.LoopTactic
import Derived.Deep.DeepCutAuto
namespace Go.Proofs.YtkmnacchiagipaaDoor
open Go.RowKit Go.Sort

/-- new blocks and draws alone -/
structure BelC (w w' : World) : Prop where
  b : Below w.heap.size w w'
  d : w.drawn ≤ w'.drawn
theorem BelC.refl (w : World) : BelC w w := ⟨Below.refl _ _, Nat.le_refl _⟩
theorem BelC.alloc {w w' : World} (h : BelC w w') (o : Obj) : BelC w (w'.alloc o) := ⟨h.b.alloc h.b.size o, h.d⟩
theorem BelC.drew {w w' : World} (h : BelC w w') : BelC w w'.drew := ⟨h.b.drew, Nat.le_succ_of_le h.d⟩
theorem BelC.grow {w w' : World} (h : BelC w w') : ∃ q os', w' = Sort.grow (w.drewN q) os' := by
  refine ⟨w'.drawn - w.drawn, w'.heap.extract w.heap.size w'.heap.size, ?_⟩
  obtain ⟨⟨h1, h2, h3, h4, h5⟩, h6⟩ := h
  obtain ⟨hp, tp, dr, os, ou⟩ := w
  obtain ⟨hp', tp', dr', os', ou'⟩ := w'
  simp only at h1 h2 h3 h4 h5 h6
  subst h1 h2 h3
  unfold Sort.grow World.drewN
  simp only [World.mk.injEq, true_and, and_true]
  refine ⟨?_, by omega⟩
  apply Array.ext'
  apply List.ext_getElem?
  intro i
  have hx := h5 i
  simp only [Array.getElem?_toList, Array.toList_append] at *
  rcases Nat.lt_or_ge i hp.size with h | h
  · rw [← Array.toList_append]; simp only [Array.getElem?_toList]
    rw [Array.getElem?_append_left h, hx h]
  · rw [← Array.toList_append]; simp only [Array.getElem?_toList]
    rw [Array.getElem?_append_right h, Array.getElem?_extract]
    split
    · congr 1; omega
    · rw [Array.getElem?_eq_none]; omega

section
variable {α : Type} [Inhabited α]
theorem flat_two (enc : α → List Value) (hk : ∀ x, (enc x).length = 2) (l : List α) : flatK enc 2 l.toArray = (l.flatMap enc).toArray := by
  have hlen : ∀ l : List α, (l.flatMap enc).length = l.length * 2 := fun l => by
    induction l with
    | nil => rfl
    | cons a l ih => rw [List.flatMap_cons, List.length_append, ih, hk, List.length_cons]; omega
  apply Array.ext'
  apply List.ext_getElem?
  intro t
  rw [Array.getElem?_toList]
  rcases Nat.lt_or_ge t (l.length * 2) with h | h
  · have hi : t / 2 < l.length := by omega
    have e := flatMap_at enc 2 hk l (t / 2) hi (t % 2) (by omega)
    rw [show t / 2 * 2 + t % 2 = t by omega] at e
    have hs : t < (flatK enc 2 l.toArray).size := by simp; omega
    rw [Array.getElem?_eq_getElem hs]
    have h1 := get_flatK enc 2 l.toArray t (by simpa using h)
    rw [getElem!_pos _ t hs] at h1
    rw [h1]
    show _ = (l.flatMap enc)[t]?
    rw [e]
    have h2 : l.toArray[t / 2]! = l[t / 2] := by rw [getElem!_pos l.toArray (t / 2) (by simpa using hi)]; simp
    rw [h2]
    have h3 : t % 2 < (enc l[t / 2]).length := by rw [hk]; omega
    rw [getElem!_pos (enc l[t / 2]) (t % 2) h3, List.getElem?_eq_getElem h3]
  · rw [Array.getElem?_eq_none (by simp; omega)]
    show _ = (l.flatMap enc)[t]?
    rw [List.getElem?_eq_none (by rw [hlen]; exact h)]
omit [Inhabited α] in
theorem flat_len (enc : α → List Value) (hk : ∀ x, (enc x).length = 2) (l : List α) : (l.flatMap enc).length = l.length * 2 := by
  induction l with
  | nil => rfl
  | cons a l ih => rw [List.flatMap_cons, List.length_append, ih, hk, List.length_cons]; omega
theorem holds_two (enc : α → List Value) (hk : ∀ x, (enc x).length = 2) {w : World} {g : Nat} {cur : Array Value} {e : TypeId} {l : List α} (hb : w.heap[g]? = some (.cells cur e (0, 0))) (ht : cur.toList.take (l.length * 2) = l.flatMap enc) : HoldsK enc 2 w g 0 l.toArray := by
  unfold HoldsK
  rw [flat_two enc hk]
  intro j hj
  have hj' : j < (l.flatMap enc).length := by simpa using hj
  have hj2 : j < l.length * 2 := by rw [flat_len enc hk] at hj'; exact hj'
  refine ⟨?_, by simp [World.frozen?, hb]⟩
  have h1 : (cur.toList.take (l.length * 2))[j]? = (l.flatMap enc)[j]? := by rw [ht]
  rw [List.getElem?_take_of_lt hj2] at h1
  simp only [World.cell?, hb, Nat.zero_add]
  simp only [Option.isSome_none, Bool.false_eq_true, if_false]
  rw [← Array.getElem?_toList, h1]
  rw [getElem!_pos _ j (by simpa using hj')]
  simp
theorem heap_rowC {w : World} {g n : Nat} {os : Array Obj} {cur : Array Value} {e : TypeId} {fr : Nat × Nat} (d : Array Value) (hb : w.heap[g]? = some (.cells cur e fr)) :
    (Sort.grow (putRow id (Sort.ahead w n) g 0 d) os).heap[g]? = some (.cells (putCells id 0 d cur) e fr) := by
  have hg : g < w.heap.size := (Array.getElem?_eq_some_iff.1 hb).1
  rw [heap_grow_old _ _ (by simpa using hg)]
  simp [putRow, mapBlock, Sort.ahead, Array.getElem?_modify, hb, onCells]
theorem below_rowC {w : World} {g n B : Nat} {os : Array Obj} (d : Array Value) (hg : B ≤ g) (hB : B ≤ w.heap.size) : Below B w (Sort.grow (putRow id (Sort.ahead w n) g 0 d) os) := by
  refine ⟨rfl, rfl, rfl, by simp, fun k hk => ?_⟩
  rw [heap_grow_old _ _ (by simp; omega)]
  have : g ≠ k := by omega
  simp [putRow, mapBlock, Sort.ahead, Array.getElem?_modify, this]
theorem take_rowC (cur : Array Value) (ts : List Value) (h : ts.length ≤ cur.size) : (putCells id 0 ts.toArray cur).toList.take ts.length = ts := by
  apply List.ext_getElem?
  intro j
  by_cases hj : j < ts.length
  · rw [List.getElem?_take_of_lt hj, Array.getElem?_toList]
    simp [putCells, hj, show j < cur.size by omega]
  · rw [List.getElem?_take_eq_none (by omega), List.getElem?_eq_none (by omega)]
theorem sorted_out {cf : α → α → Int} {d d' : Array α} (hp : PermIn 0 d.size d d') (hs : SortedIn (ltOf cf) 0 d.size d') : d'.toList.Perm d.toList ∧ d'.toList.Pairwise fun a b => ltOf cf b a = false := by
  obtain ⟨h1, -, h2⟩ := hp
  have e1 : d'.extract 0 d.size = d' := by rw [← h1]; simp
  have e2 : d.extract 0 d.size = d := by simp
  rw [e1, e2] at h2
  refine ⟨h2, List.pairwise_iff_getElem.2 fun i j hi hj hij => ?_⟩
  have hi' : i < d'.size := by simpa using hi
  have hj' : j < d'.size := by simpa using hj
  have := hs i j (Nat.zero_le _) hij (by omega)
  rw [getElem!_pos d' i hi', getElem!_pos d' j hj'] at this
  simpa using this
/-- a row of the call's own, sorted -/
theorem row_sorted (enc : α → List Value) (hk : ∀ x, (enc x).length = 2) {ty : TypeId} {w : World} {B g cap : Nat} {cur : Array Value} {l : List α} (hbg : B ≤ g) (hB : B ≤ w.heap.size) (hg : w.heap[g]? = some (.cells cur ty (0, 0))) (h1 : l.length ≤ cap) (h2 : cap ≤ maxLen) (h3 : cur.size = cap * 2) {n : Nat} {os : Array Obj} {d' : Array α} (hp : d'.toList.Perm l) :
    (sortWorldK enc 2 w g 0 n d' os).ownsRow B ty 2 (.slice (some ⟨g, 0, none⟩) l.length cap) l.length (d'.toList.flatMap enc) ∧ Below B w (sortWorldK enc 2 w g 0 n d' os) := by
  have hl := hp.length_eq
  have hlen : (d'.toList.flatMap enc).length = l.length * 2 := by rw [flat_len enc hk, hl]
  have ef : flatK enc 2 d' = (d'.toList.flatMap enc).toArray := by
    have := flat_two enc hk d'.toList
    simpa using this
  unfold sortWorldK putRowK
  rw [ef]
  refine ⟨⟨by rw [hlen], .inr ⟨g, cap, _, rfl, hbg, heap_rowC _ hg, h1, h2, by simp [putCells, h3], ?_⟩⟩, below_rowC _ hbg hB⟩
  rw [← hlen]
  exact take_rowC cur _ (by rw [hlen, h3]; omega)
end

theorem Rd.of_blk2 (w : World) (x y : Int) {g : Nat} (hg : g = w.heap.size) : Rd (w.alloc (.cells #[.int .i64 x, .int .i64 y] 3)) (some ⟨g, 0, none⟩) 2 1 (icells [x, y]) := by
  subst hg
  refine ⟨rfl, rdy_some _ _ _, fun j hj => ?_⟩
  simp only [blk_some, ofs_some, Nat.zero_add]
  have h := (Blk.new w #[.int .i64 x, .int .i64 y] 3).cell j
  rw [h]
  match j, hj with
  | 0, _ => rfl
  | 1, _ => rfl
/-! ### parts of a set -/
abbrev cfP (x y : Int × Int) : Int := cmp3 x.1 y.1
theorem cmp3_lt (a b : Int) : cmp3 a b < 0 ↔ a < b := by
  unfold cmp3
  split
  · constructor <;> intro h <;> omega
  · split <;> constructor <;> intro h <;> omega
theorem ltPt (x y : Int × Int) : ltOf cfP x y = true ↔ x.1 < y.1 := by
  unfold ltOf
  rw [decide_eq_true_iff]
  exact cmp3_lt _ _
theorem ltP (x y : Int × Int) : ltOf cfP x y = false ↔ y.1 ≤ x.1 := by
  rw [← Bool.not_eq_true, ltPt]; omega
theorem swoP : Go.Sort.SWO (ltOf cfP) where
  irrefl x := (ltP x x).2 (Int.le_refl _)
  trans x y z p q := (ltPt x z).2 (Int.lt_trans ((ltPt x y).1 p) ((ltPt y z).1 q))
  ntrans x y z p q := (ltP x z).2 (Int.le_trans ((ltP y z).1 q) ((ltP x y).1 p))
set_option maxRecDepth 100000 in
set_option maxHeartbeats 4000000 in
theorem part_fn (x y : Int × Int) (w : World) : Calls Tryd.prog 94 #[.agg #[.int .i64 x.1, .int .i64 x.2], .agg #[.int .i64 y.1, .int .i64 y.2]] w fun e w' => e = .returned (.int .i64 (cfP x y)) ∧ BelC w w' := by
  go_enter Tryd.func94, Tryd.ntmps94
  go_wp2_with fail
  refine (Compare_any _ _ _).mono ?_; rintro e w_ ⟨rfl, rfl⟩
  go_wp2_with fail
  go_ret
  exact ⟨rfl, ((BelC.refl w).alloc _).alloc _⟩
theorem part_lays (g size : Nat) (w : World) : CmpLays Tryd.prog 94 #[] twoC 2 cfP g 0 size w := by
  intro m os dk _ x y
  exact (part_fn x y _).mono fun _ _ h => ⟨h.1, h.2.grow⟩
set_option maxRecDepth 100000 in
set_option maxHeartbeats 4000000 in
theorem sort_parts (v : Value) (l : List (Int × Int)) (B : Nat) (w : World) (ho : OwnTwos 130 w B v l) (hne : l ≠ []) (hl : l.length ≤ 1000000) (hB : B ≤ w.heap.size) :
    Calls Tryd.prog 93 #[v, .func (.func 94) #[] #[]] w fun e w' => e = .returned (.tuple #[]) ∧ ∃ l' : List (Int × Int), l'.Perm l ∧ l'.Pairwise (fun a b => a.1 ≤ b.1) ∧ OwnTwos 130 w' B v l' ∧ Below B w w' := by
  rcases ho.2 with ⟨rfl, hn⟩ | ⟨g, cap, cur, rfl, hbg, hg, h1, h2, h3, h5⟩
  · exact absurd (List.eq_nil_of_length_eq_zero hn) hne
  · have hgl : g < w.heap.size := (Array.getElem?_eq_some_iff.1 hg).1
    have hk : ∀ x : Int × Int, (twoC x).length = 2 := fun _ => rfl
    have hlim : Lib.bitLen l.length < 4611686018427387904 := Nat.lt_of_le_of_lt (Lib.bitLen_le l.length 62 (by omega) (by omega)) (by omega)
    have hH := holds_two twoC hk hg h5
    have hv1 : ∀ x : Int × Int, ∀ v ∈ twoC x, v.oneCell' = true := fun x v hv => by simp [twoC] at hv; rcases hv with rfl | rfl <;> rfl
    have hp := AnyQ.pdqsortCmpFunc_all Tryd.pdqPart 2 (fun w => by kernel_rfl) (fun w => by kernel_rfl) twoC cfP 94 #[] swoP g 0 cap l.toArray w (fun args w => by simp [go_sem]) (part_lays g _ w) ⟨hk, hv1, hH, hgl⟩ (l.length + 1) 0 l.length (Lib.bitLen l.length) l.toArray w (by omega) rfl (SWK.start hH) (Nat.zero_le _) (by simp) (by simp; omega) hlim (Or.inl rfl)
    have HP : Hid (Calls Tryd.prog 129 #[.slice (some ⟨g, 0, none⟩) l.length cap, .int .i64 0, .int .i64 l.length, .int .i64 (Lib.bitLen l.length : Nat), .func (.func 94) #[] #[]] w fun e w' => e = .returned (.tuple #[]) ∧ SWK twoC 2 w g 0 (pdq (ltOf cfP) l.toArray 0 l.length (Lib.bitLen l.length) true true) w') := Lib.hid (by exact hp)
    have HL : Hid (Calls Tryd.prog 92 #[.int .u64 (l.length : Int)] w fun e w' => e = .returned (.int .i64 (Lib.bitLen l.length : Nat)) ∧ w' = w) := Lib.hid (by
      have h := Any.bits_Len (SlLaysF0.n15.bits (P := Tryd.prog) (ρ := Tryd.sortPair_ren) { Tryd.sortPair with }) (l.length : Int) w (by omega) (by omega)
      rw [Int.toNat_natCast] at h
      exact h)
    have wr : IntKind.u64.wrap (l.length : Int) = l.length := by simp [IntKind.wrap, IntKind.bits, IntKind.signed]; omega
    have HQ := Lib.hid (pdq_sorts (ltOf cfP) swoP l.toArray 0 l.toArray.size (Lib.bitLen l.toArray.size) true true (Nat.zero_le _) (Nat.le_refl _) (Or.inl rfl))
    have HF : Hid (∀ n os d', d'.toList.Perm l → OwnTwos 130 (sortWorldK twoC 2 w g 0 n d' os) B (.slice (some ⟨g, 0, none⟩) l.length cap) d'.toList ∧ Below B w (sortWorldK twoC 2 w g 0 n d' os)) := Lib.hid fun n os d' hpm => by
      have := row_sorted twoC hk hbg hB hg h1 h2 h3 (n := n) (os := os) hpm
      refine ⟨?_, this.2⟩
      show World.ownsRow _ B _ 2 _ d'.toList.length (twosC d'.toList)
      rw [hpm.length_eq]
      exact this.1
    clear hH hp hv1 ho hne h1 h2 h3 h5 hbg hg
    go_enter Tryd.func93, Tryd.ntmps93
    go_wp2_with fail
    refine HL.out.mono ?_; rintro e w_ ⟨rfl, rfl⟩
    go_wp2_with fail
    refine HP.out.mono ?_; rintro e w1 ⟨rfl, hS⟩
    have HS := Lib.hid hS
    clear hS
    go_wp2_with fail
    go_end0
    obtain ⟨n, os, rfl⟩ := HS.out
    obtain ⟨k1, k2⟩ := sorted_out HQ.out.1 HQ.out.2
    have e : l.toArray.size = l.length := by simp
    rw [e] at k1 k2
    obtain ⟨k3, k4⟩ := HF.out n os _ (by simpa using k1)
    exact ⟨rfl, _, by simpa using k1, k2.imp fun h => (ltP _ _).1 h, k3, k4⟩

/-! ### pairs of labels -/
abbrev FF := Fin 2048 × Fin 2048
def ofF (p : FF) : Int × Int := ((p.1.val : Int), (p.2.val : Int))
def toF (p : Int × Int) : FF := (Fin.ofNat 2048 p.1.toNat, Fin.ofNat 2048 p.2.toNat)
theorem of_toF {p : Int × Int} (h : (0 ≤ p.1 ∧ p.1 ≤ 1000) ∧ 0 ≤ p.2 ∧ p.2 ≤ 1000) : ofF (toF p) = p := by
  obtain ⟨a, b⟩ := p
  simp only at h
  simp only [ofF, toF, Fin.val_ofNat]
  rw [Nat.mod_eq_of_lt (by omega), Nat.mod_eq_of_lt (by omega)]
  exact Prod.ext (by simp only; omega) (by simp only; omega)
def encF (p : FF) : List Value := twoC (ofF p)
theorem flat_encF (l : List FF) : l.flatMap encF = twosC (l.map ofF) := by
  induction l with
  | nil => rfl
  | cons a l ih => simp only [List.flatMap_cons, List.map_cons, twosC, ih]; rfl
abbrev cfF (x y : FF) : Int := firstOf [(x.1.val : Int) - y.1.val, (x.2.val : Int) - y.2.val]
theorem cfF_lt (x y : FF) : cfF x y < 0 ↔ keyLt (ofF x) (ofF y) := by
  unfold keyLt ofF
  simp only [cfF, firstOf]
  split
  · split <;> constructor <;> intro h <;> omega
  · constructor <;> intro h <;> omega
theorem ltFt (x y : FF) : ltOf cfF x y = true ↔ keyLt (ofF x) (ofF y) := by
  unfold ltOf
  rw [decide_eq_true_iff]
  exact cfF_lt _ _
theorem ltFf (x y : FF) : ltOf cfF x y = false ↔ ¬ keyLt (ofF x) (ofF y) := by rw [← Bool.not_eq_true, ltFt]
theorem swoF : Go.Sort.SWO (ltOf cfF) where
  irrefl x := (ltFf x x).2 (by unfold keyLt; omega)
  trans x y z p q := by rw [ltFt] at *; unfold keyLt at *; omega
  ntrans x y z p q := by rw [ltFf] at *; unfold keyLt at *; omega
set_option maxRecDepth 100000 in
set_option maxHeartbeats 4000000 in
theorem pair_fn (x y : FF) (w : World) : Calls Tryd.prog 57 #[.agg #[.int .i64 (x.1.val : Int), .int .i64 (x.2.val : Int)], .agg #[.int .i64 (y.1.val : Int), .int .i64 (y.2.val : Int)]] w fun e w' => e = .returned (.int .i64 (cfF x y)) ∧ BelC w w' := by
  have w1 : IntKind.i64.wrap ((x.1.val : Int) - y.1.val) = (x.1.val : Int) - y.1.val := IntWalk.i64_in _ (by omega)
  have w2 : IntKind.i64.wrap ((x.2.val : Int) - y.2.val) = (x.2.val : Int) - y.2.val := IntWalk.i64_in _ (by omega)
  go_enter Tryd.func57, Tryd.ntmps57
  go_wp2_with fail
  refine (Or_any _ 2 2 [(x.1.val : Int) - y.1.val, (x.2.val : Int) - y.2.val] _ (Rd.of_blk2 _ _ _ (by simp)) (by omega)).mono ?_; rintro e w_ ⟨rfl, rfl⟩
  go_wp2_with fail
  go_ret
  exact ⟨rfl, (((BelC.refl w).alloc _).alloc _).alloc _⟩
theorem pair_lays (g size : Nat) (w : World) : CmpLays Tryd.prog 57 #[] encF 2 cfF g 0 size w := by
  intro m os dk _ x y
  exact (pair_fn x y _).mono fun _ _ h => ⟨h.1, h.2.grow⟩
set_option maxRecDepth 100000 in
set_option maxHeartbeats 4000000 in
theorem sort_pairs (v : Value) (l : List (Int × Int)) (B : Nat) (w : World) (ho : OwnTwos 141 w B v l) (hb : ∀ p ∈ l, (0 ≤ p.1 ∧ p.1 ≤ 1000) ∧ 0 ≤ p.2 ∧ p.2 ≤ 1000) (nd : l.Nodup) (hl : l.length ≤ 1000000) (hB : B ≤ w.heap.size) :
    Calls Tryd.prog 56 #[v, .func (.func 57) #[] #[]] w fun e w' => e = .returned (.tuple #[]) ∧ ∃ l' : List (Int × Int), l'.Perm l ∧ l'.Pairwise keyLt ∧ OwnTwos 141 w' B v l' ∧ Below B w w' := by
  rcases ho.2 with ⟨rfl, hn⟩ | ⟨g, cap, cur, rfl, hbg, hg, h1, h2, h3, h5⟩
  · have e : l = [] := List.eq_nil_of_length_eq_zero hn
    subst e
    refine (AnyF.slices_SortFunc_none Tryd.sortPair none 0 _ w).mono fun e w' h => ?_
    obtain ⟨he, rfl⟩ := h
    exact ⟨he, [], List.Perm.refl _, List.Pairwise.nil, ho, Below.refl _ _⟩
  · have hgl : g < w.heap.size := (Array.getElem?_eq_some_iff.1 hg).1
    have hk : ∀ x : FF, (encF x).length = 2 := fun _ => rfl
    have hv1 : ∀ x : FF, ∀ v ∈ encF x, v.oneCell' = true := fun x v hv => by simp [encF, twoC] at hv; rcases hv with rfl | rfl <;> rfl
    have el : (l.map toF).map ofF = l := by
      rw [List.map_map]
      conv => rhs; rw [← List.map_id l]
      exact List.map_congr_left fun p hp => of_toF (hb p hp)
    have hlen : (l.map toF).length = l.length := by simp
    have h5' : cur.toList.take ((l.map toF).length * 2) = (l.map toF).flatMap encF := by rw [flat_encF, el, hlen]; exact h5
    have hH := holds_two encF hk hg h5'
    have := AnyQ.slices_SortFunc Tryd.sortPair 2 (fun w => by kernel_rfl) (fun w => by kernel_rfl) encF hk hv1 cfF swoF 57 #[] g 0 cap (l.map toF).toArray w (fun args w => by simp [go_sem]) (pair_lays g _ w) hH hgl (by simp; omega)
    have es : ((l.map toF).toArray).size = l.length := by simp
    rw [es] at this
    refine Calls.mono this fun e w' h => ?_
    obtain ⟨he, d', n, os, hp, hs, rfl⟩ := h
    rw [← es] at hp hs
    obtain ⟨k1, k2⟩ := sorted_out hp hs
    have k1' : d'.toList.Perm (l.map toF) := by simpa using k1
    obtain ⟨k3, k4⟩ := row_sorted encF hk hbg hB hg (l := l.map toF) (by rw [hlen]; exact h1) h2 h3 (n := n) (os := os) k1'
    have hpm : (d'.toList.map ofF).Perm l := by have := k1'.map ofF; rwa [el] at this
    have hnd := (hpm.nodup_iff).2 nd
    refine ⟨he, d'.toList.map ofF, hpm, ?_, ?_, k4⟩
    · have h6 : (d'.toList.map ofF).Pairwise (fun a b => ¬ keyLt b a) := List.pairwise_map.2 (k2.imp fun h => (ltFf _ _).1 h)
      refine (h6.and hnd).imp fun {a b} h => ?_
      obtain ⟨h7, h8⟩ := h
      obtain ⟨a1, a2⟩ := a
      obtain ⟨b1, b2⟩ := b
      have h9 : ¬ (a1 = b1 ∧ a2 = b2) := fun e => h8 (by rw [e.1, e.2])
      unfold keyLt at h7 ⊢
      simp only at h7 ⊢
      omega
    · show World.ownsRow _ B _ 2 _ _ _
      rw [flat_encF, hlen] at k3
      rw [hpm.length_eq]
      exact k3
end Go.Proofs.YtkmnacchiagipaaDoor

namespace Go.Proofs.YtkmnacchiagipaaDoor
open Go.RowKit

theorem own_ne_cellsC {w : World} {base : Nat} {e : TypeId} {size n : Nat} {v : Value} {xs : List Value} (h : w.ownsRow base e size v n xs) {r : Nat} (hr : ∀ cur e' fz, w.heap[r]? ≠ some (.cells cur e' fz)) : v.ownBlock ≠ some r := by
  rcases h.2 with ⟨rfl, _⟩ | ⟨g, cap, cur, rfl, _, hg, _⟩
  · simp [Value.ownBlock]
  · intro e2
    simp [Value.ownBlock] at e2
    subst e2
    exact hr _ _ _ hg
theorem MapR.noC {κ ν : Type} {w : World} {b r : Nat} {c : κ → Value} {d : ν → Value} {l : List (κ × ν)} {idx : List Nat} (h : MapR w b r c d l idx) : ∀ cur e' fz, w.heap[r]? ≠ some (.cells cur e' fz) := by
  obtain ⟨c0, h1, -⟩ := h.it
  intro cur e' fz h2; rw [h1] at h2; cases h2
def MinJ (T : List (Nat × Int)) (m : Int) : Prop := (m = -1 ∧ T = []) ∨ (0 ≤ m ∧ (∃ x ∈ T, x.2 = m) ∧ ∀ x ∈ T, m ≤ x.2)
theorem MinJ.less {T : List (Nat × Int)} {m : Int} (h : MinJ T m) {x : Nat × Int} (h0 : 0 ≤ x.2) (hx : m < 0 ∨ x.2 < m) : MinJ (T ++ [x]) x.2 := by
  refine .inr ⟨h0, ⟨x, by simp, rfl⟩, fun y hy => ?_⟩
  rcases List.mem_append.1 hy with hy | hy
  · rcases h with ⟨-, rfl⟩ | ⟨h1, -, h2⟩
    · cases hy
    · have := h2 y hy; omega
  · simp only [List.mem_singleton] at hy; subst hy; exact Int.le_refl _
theorem MinJ.keep {T : List (Nat × Int)} {m : Int} (h : MinJ T m) {x : Nat × Int} (h1 : ¬ m < 0) (hx : ¬ x.2 < m) : MinJ (T ++ [x]) m := by
  rcases h with ⟨h2, -⟩ | ⟨h2, ⟨y, hy, h3⟩, h4⟩
  · omega
  · refine .inr ⟨h2, ⟨y, List.mem_append_left _ hy, h3⟩, fun z hz => ?_⟩
    rcases List.mem_append.1 hz with hz | hz
    · exact h4 z hz
    · simp only [List.mem_singleton] at hz; subst hz; omega
/-- what settle answers -/
structure SetR (l : List (Nat × Int)) (w : Int) (T : SetL) : Prop where
  srt : SortedS T
  mem : ∀ q v, (q, v) ∈ T ↔ (q, v + w) ∈ l
  zero : ∃ q, (q, 0) ∈ T
  nn : ∀ p ∈ T, 0 ≤ p.2
  w0 : 0 ≤ w
def leftI (m : Int) (x : Nat × Int) : Int × Int := ((x.1 : Int), x.2 - m)
theorem setR_of {l T0 : List (Nat × Int)} (hp0 : T0.Perm l) (nd : (l.map (·.1)).Nodup) (hne : l ≠ []) {m : Int} (hm : MinJ T0 m) {l' : List (Int × Int)} (hp : l'.Perm (T0.map (leftI m))) (hs : l'.Pairwise (fun a b => a.1 ≤ b.1)) :
    ∃ S : SetL, setI S = l' ∧ SetR l m S := by
  have hn0 : ∀ p ∈ l', 0 ≤ p.1 := fun p hp' => by
    obtain ⟨x, -, rfl⟩ := List.mem_map.1 (hp.mem_iff.1 hp')
    simp only [leftI]; omega
  have hmm : 0 ≤ m ∧ (∃ x ∈ l, x.2 = m) ∧ ∀ x ∈ l, m ≤ x.2 := by
    rcases hm with ⟨-, rfl⟩ | ⟨h1, ⟨x, hx, h2⟩, h3⟩
    · exact absurd (List.perm_nil.1 hp0.symm) hne
    · exact ⟨h1, ⟨x, hp0.mem_iff.1 hx, h2⟩, fun y hy => h3 y (hp0.mem_iff.2 hy)⟩
  have hmem : ∀ a b : Int, (a, b) ∈ l' ↔ ∃ q : Nat, a = q ∧ (q, b + m) ∈ l := fun a b => by
    rw [hp.mem_iff, List.mem_map]
    constructor
    · rintro ⟨x, hx, e⟩
      simp only [leftI, Prod.mk.injEq] at e
      refine ⟨x.1, e.1.symm, ?_⟩
      rw [show b + m = x.2 by omega]
      exact hp0.mem_iff.1 hx
    · rintro ⟨q, rfl, h⟩
      exact ⟨(q, b + m), hp0.mem_iff.2 h, Prod.ext rfl (by simp only [leftI]; omega)⟩
  have hnd : (l'.map (·.1)).Nodup := by
    have h1 := hp.map (·.1)
    refine (h1.nodup_iff).2 ?_
    have h2 := (hp0.map (·.1)).nodup_iff.2 nd
    rw [List.map_map]
    have e : ((·.1) ∘ leftI m) = (fun q : Nat => (q : Int)) ∘ (fun x : Nat × Int => x.1) := rfl
    rw [e, ← List.map_map]
    exact List.pairwise_map.2 (h2.imp fun h e => h (by exact_mod_cast e))
  have e0 : setI (l'.map fun p => (p.1.toNat, p.2)) = l' := by
    unfold setI
    rw [List.map_map]
    conv => rhs; rw [← List.map_id l']
    refine List.map_congr_left fun p hp' => ?_
    have := hn0 p hp'
    exact Prod.ext (by simp only [Function.comp]; show ((p.1.toNat : Nat) : Int) = p.1; omega) rfl
  have hmT : ∀ (q : Nat) (v : Int), (q, v) ∈ (l'.map fun p => (p.1.toNat, p.2)) ↔ (q, v + m) ∈ l := fun q v => by
    rw [List.mem_map]
    constructor
    · rintro ⟨p, hp', e⟩
      obtain ⟨a, b⟩ := p
      simp only [Prod.mk.injEq] at e
      obtain ⟨q', h1, h2⟩ := (hmem a b).1 hp'
      have : q' = q := by omega
      rw [← this, ← e.2]; exact h2
    · intro h
      exact ⟨((q : Int), v), (hmem _ _).2 ⟨q, rfl, h⟩, by simp⟩
  refine ⟨_, e0, ⟨?_, hmT, ?_, ?_, hmm.1⟩⟩
  · unfold SortedS
    refine List.pairwise_map.2 ?_
    have h3 : l'.Pairwise (fun a b => a.1 ≠ b.1) := List.pairwise_map.1 hnd
    refine ((hs.and h3).and (List.pairwise_of_forall_mem_list fun a ha b hb => And.intro (hn0 a ha) (hn0 b hb))).imp fun {a b} h => ?_
    obtain ⟨⟨h4, h5⟩, h6, h7⟩ := h
    simp only
    omega
  · obtain ⟨x, hx, e⟩ := hmm.2.1
    exact ⟨x.1, (hmT _ _).2 (by rw [show (0 : Int) + m = x.2 by omega]; exact hx)⟩
  · rintro ⟨q, v⟩ hp'
    have := hmm.2.2 _ ((hmT q v).1 hp')
    simp only at this ⊢
    omega
set_option maxRecDepth 100000 in
set_option maxHeartbeats 8000000 in
theorem settle_any (b : Nat) (l : List (Nat × Int)) (w : World) (hm : MapB w b natV intV l) (hne : l ≠ []) (hb : ∀ x ∈ l, 0 ≤ x.2 ∧ x.2 ≤ 1000000000) (hl : l.length ≤ 1000) :
    Calls Tryd.prog 59 #[.map (some b)] w fun e w' => ∃ least A c S, e = .returned (.tuple #[.int .i64 least, .slice A (List.length S) c]) ∧ OwnTwos 130 w' w.heap.size (.slice A S.length c) (setI S) ∧ SetR l least S ∧ Below w.heap.size w w' := by
  have HNE := Lib.hid hne; have HBD := Lib.hid hb; have HM := Lib.hid hm
  have hbl := hm.lt
  have HND := Lib.hid hm.nd
  clear hm hne hb
  go_enter Tryd.func59, Tryd.ntmps59
  go_wp2_with (at_range; refine wpList_range_x rfl rfl Tryd.underlying101 rfl HM.out ?_; intro w6 hR6 b6 z6)
  go_frame
  have HR6 := Lib.hid hR6; have B6 := Lib.hid b6
  obtain ⟨r, hr⟩ : ∃ r, w.heap.size = r := ⟨_, rfl⟩
  have HRS := Lib.hid hr
  rw [hr] at HR6
  rw [hr]
  clear hR6 b6 z6 hr
  go_loopw [4] (fun mv wr => ∃ (idx : List Nat) (mn : Int), mv = .int .i64 mn ∧ MapR wr b r natV intV l idx ∧ MinJ (pickL l idx) mn ∧ Below w.heap.size w wr) (fun _ wr => l.length - itLen wr r)
  case atStart => exact ⟨[], -1, rfl, HR6.out, .inl ⟨rfl, rfl⟩, B6.out⟩
  case round =>
    clear HR6 B6
    obtain ⟨idx, mn, rfl, hR, hJ, hB⟩ := hrel
    obtain ⟨wx, rfl⟩ : ∃ wo : World, wo = wr := ⟨_, rfl⟩
    have HRX := Lib.hid hR; have HJ := Lib.hid hJ; have HB := Lib.hid hB
    clear hR hJ hB
    go_wp2_with (at_next; refine wpList_next_x rfl rfl rfl HRX.out ?_ ?_)
    · intro hall
      have HP0 := Lib.hid (pickL_all l HRX.out.nd HRX.out.lt hall)
      have HMX := Lib.hid HRX.out.map
      have hbx := HB.out.size
      obtain ⟨T0, hT0⟩ : ∃ T0, pickL l idx = T0 := ⟨_, rfl⟩
      rw [hT0] at HJ HP0
      clear hall hT0 HRX
      have hmn : 0 ≤ mn ∧ mn ≤ 1000000000 := by
        rcases HJ.out with ⟨-, h⟩ | ⟨h1, ⟨x, hx, h2⟩, -⟩
        · have h3 := HP0.out; rw [h] at h3; exact absurd (List.perm_nil.1 h3.symm) HNE.out
        · have := HBD.out x (HP0.out.mem_iff.1 hx); omega
      obtain ⟨m0, m1⟩ := hmn
      go_wp2_with (at_range; refine wpList_range_x rfl rfl Tryd.underlying101 rfl HMX.out ?_; intro w7 hR7 b7 z7)
      go_frame
      have HR7 := Lib.hid hR7; have B7 := Lib.hid (HB.out.trans (b7.mono hbx))
      obtain ⟨r2, hr2⟩ : ∃ r, wx.heap.size = r := ⟨_, rfl⟩
      have HRS2 := Lib.hid hr2
      rw [hr2] at HR7
      rw [hr2]
      clear hR7 b7 z7 hr2
      go_loopw [7] (fun sv wr => ∃ (idx : List Nat), MapR wr b r2 natV intV l idx ∧ OwnTwos 130 wr w.heap.size sv ((pickL l idx).map (leftI mn)) ∧ Below w.heap.size w wr) (fun _ wr => l.length - itLen wr r2)
      case atStart => exact ⟨[], HR7.out, World.ownsRow_nil _ _ _ _, B7.out⟩
      case round =>
        clear HR7 B7
        obtain ⟨idx2, hR, hO, hB⟩ := hrel
        obtain ⟨wy, rfl⟩ : ∃ wo : World, wo = wr := ⟨_, rfl⟩
        have HRY := Lib.hid hR; have HO := Lib.hid hO; have HBY := Lib.hid hB
        clear hR hO hB
        go_wp2_with (at_next; refine wpList_next_x rfl rfl rfl HRY.out ?_ ?_)
        · intro hall
          have HP := Lib.hid (pickL_all l HRY.out.nd HRY.out.lt hall)
          have hby := HBY.out.size
          obtain ⟨A9, c9, rfl, -, -⟩ := own_form HO.out
          have hlen : (pickL l idx2).length = l.length := HP.out.length_eq
          have HSO := Lib.hid (sort_parts _ _ w.heap.size wy HO.out (fun e => by
            have h1 := congrArg List.length e
            rw [List.length_map, hlen] at h1
            exact HNE.out (List.eq_nil_of_length_eq_zero h1)) (by rw [List.length_map, hlen]; omega) hby)
          clear hall hlen
          have HP2 : Hid (((pickL l idx2).map (leftI mn)).Perm (T0.map (leftI mn))) := Lib.hid ((HP.out.trans HP0.out.symm).map _)
          generalize (pickL l idx2).map (leftI mn) = ps at *
          obtain ⟨np, hnp⟩ : ∃ n, ps.length = n := ⟨_, rfl⟩
          have HNP := Lib.hid hnp
          rw [hnp] at HSO
          rw [hnp]
          clear hnp HO
          go_wp2_with fail
          refine HSO.out.mono ?_; rintro e w9 ⟨rfl, l', hp9, hs9, ho9, b9⟩
          obtain ⟨S, hS1, hS2⟩ := setR_of HP0.out HND.out HNE.out HJ.out (hp9.trans HP2.out) hs9
          have hSl : S.length = np := by rw [← HNP.out, ← hp9.length_eq, ← hS1, setI_len]
          have HOS := Lib.hid ho9; have HBS := Lib.hid (HBY.out.trans b9); have HSR := Lib.hid hS2; have HS1 := Lib.hid hS1
          have HSL := Lib.hid hSl
          clear hp9 hs9 ho9 b9 hS1 hS2 hSl
          go_wp2_with fail
          refine bodyPost_ret (v := .tuple #[.int .i64 mn, .slice A9 np c9]) (by simp [results, Tryd.results59, go_sem]) rfl ⟨mn, A9, c9, S, by rw [HSL.out], ?_, HSR.out, HBS.out⟩
          have h := HOS.out
          rw [← HS1.out] at h
          unfold OwnTwos at h ⊢
          rw [HSL.out]; rw [setI_len, HSL.out] at *
          exact h
        · intro i hi w7 hni hR7 hg7 hz7 hen
          have HR7 := Lib.hid hR7; have HNI := Lib.hid hni
          have HPS := Lib.hid (pickL_snoc l idx2 i hi)
          have hlb := HBD.out l[i] (List.getElem_mem hi)
          obtain ⟨A8, c8, rfl, -, -⟩ := own_form HO.out
          have HO7 := Lib.hid (World.ownsRow.kept HO.out hg7 (.inr (own_ne_cellsC HO.out HRY.out.noC)))
          have hll : ((pickL l idx2).map (leftI mn)).length ≤ 1000 := by
            rw [List.length_map, pickL_len l idx2 HRY.out.lt]
            have := HRY.out.len; omega
          have HB7 : Hid (Below w.heap.size w w7) := Lib.hid (HBY.out.grown hg7 HBY.out.size (fun j hj => by simp at hj; have := HRS2.out; omega))
          have hz := HB7.out.size
          have w2 : IntKind.i64.wrap (l[i].2 - mn) = l[i].2 - mn := IntWalk.i64_in _ (by omega)
          generalize l[i] = x at *
          obtain ⟨L2, hL2⟩ : ∃ L2, (pickL l idx2).map (leftI mn) = L2 := ⟨_, rfl⟩
          have HL2 := Lib.hid hL2
          rw [hL2] at hll HO7
          obtain ⟨nL, hnL⟩ : ∃ nL, L2.length = nL := ⟨_, rfl⟩
          have HNL := Lib.hid hnL
          rw [hnL] at hll HO7
          rw [hL2, hnL]
          have hll2 : nL + 1 ≤ 1000000 := by omega
          clear hL2 hnL hR7 hg7 hz7 hni HO hlb
          go_wp2_with (at_builtin; refine wpList_app1 rfl _ _ rfl eltPart w.heap.size (.slice A8 nL c8) nL (twosC L2) rfl w7 HO7.out #[.int .i64 (x.1 : Int), .int .i64 (x.2 - mn)] rfl w7.heap.size rfl rfl rfl (by simp [Value.oneCell']) hll2 (by omega) hz ?_; intro g3 cap w9 ho9 hg9 hat9 hlt9)
          have HON : Hid (OwnTwos 130 w9 w.heap.size (.slice (some ⟨g3, 0, none⟩) (nL + 1) cap) (L2 ++ [leftI mn x])) := Lib.hid (by unfold OwnTwos; rw [twosC_snoc, List.length_append, HNL.out]; exact ho9)
          have hnb := own_base HO7.out hbl
          have hnr := own_ne_cellsC HO7.out HR7.out.noC
          have HRB := Lib.hid (HR7.out.kept hg9 (fun e => hnb e.symm) (fun e => hnr e.symm))
          have HB9 : Hid (Below w.heap.size w w9) := Lib.hid (HB7.out.grown hg9 hz (fun j hj => (HO7.out.lt j hj).1))
          clear ho9 hg9 hat9 hlt9 hnb hnr HB7 HR7
          go_roundw
          case rel => exact ⟨idx2 ++ [i], HRB.out, by rw [HPS.out, List.map_append, HL2.out]; exact HON.out, HB9.out⟩
          case measure =>
            have h1 := HRB.out.itLen; have h2 := HRY.out.itLen; have h3 := HRB.out.len
            rw [List.length_append, List.length_singleton] at h1 h3
            rw [h1, h2]; omega
    · intro i hi w7 hni hR7 hg7 hz7 hen
      have HR7 := Lib.hid hR7
      have HPS := Lib.hid (pickL_snoc l idx i hi)
      have hlb := HBD.out l[i] (List.getElem_mem hi)
      have HB7 : Hid (Below w.heap.size w w7) := Lib.hid (HB.out.grown hg7 HB.out.size (fun j hj => by simp at hj; have := HRS.out; omega))
      generalize l[i] = x at *
      obtain ⟨q, v⟩ := x
      simp only at hlb hen
      obtain ⟨v0, v1⟩ := hlb
      clear hR7 hg7 hz7 hni
      by_cases z1 : mn < 0
      · have HJ2 := Lib.hid (HJ.out.less (x := (q, v)) v0 (.inl z1))
        go_wp2_with fail
        go_roundw
        case rel => exact ⟨idx ++ [i], v, rfl, HR7.out, by rw [HPS.out]; exact HJ2.out, HB7.out⟩
        case measure =>
            have h1 := HR7.out.itLen; have h2 := HRX.out.itLen; have h3 := HR7.out.len
            rw [List.length_append, List.length_singleton] at h1 h3
            rw [h1, h2]; omega
      · by_cases z2 : v < mn
        · have HJ2 := Lib.hid (HJ.out.less (x := (q, v)) v0 (.inr z2))
          go_wp2_with fail
          go_roundw
          case rel => exact ⟨idx ++ [i], v, rfl, HR7.out, by rw [HPS.out]; exact HJ2.out, HB7.out⟩
          case measure =>
            have h1 := HR7.out.itLen; have h2 := HRX.out.itLen; have h3 := HR7.out.len
            rw [List.length_append, List.length_singleton] at h1 h3
            rw [h1, h2]; omega
        · have HJ2 := Lib.hid (HJ.out.keep (x := (q, v)) z1 z2)
          go_wp2_with fail
          go_roundw
          case rel => exact ⟨idx ++ [i], mn, rfl, HR7.out, by rw [HPS.out]; exact HJ2.out, HB7.out⟩
          case measure =>
            have h1 := HR7.out.itLen; have h2 := HRX.out.itLen; have h3 := HR7.out.len
            rw [List.length_append, List.length_singleton] at h1 h3
            rw [h1, h2]; omega
end Go.Proofs.YtkmnacchiagipaaDoor
