/- certain: what pairs of labels lead to, as a map of maps. -/
import Derived.Test.YtkmnacchiagipaaDoorCertMem
namespace Go.Proofs.YtkmnacchiagipaaDoor
open Go.RowKit
open Go.ChangeMaps (setBlock)

abbrev KK := Int × Int
abbrev TabL := List (KK × Nat)
abbrev TabF := Nat → List (Nat × Int)
theorem mem_assoc {κ ν : Type} [DecidableEq κ] {l : List (κ × ν)} (nd : (l.map (·.1)).Nodup) {x : κ} {w : ν} : (x, w) ∈ l ↔ assoc l x = some w := by
  refine ⟨fun h => ?_, assoc_mem⟩
  induction l with
  | nil => cases h
  | cons p l ih =>
    rw [List.map_cons, List.nodup_cons] at nd
    simp only [assoc]
    rcases List.mem_cons.1 h with h | h
    · subst h; simp
    · by_cases e : x = p.1
      · exact absurd (List.mem_map.2 ⟨_, h, by exact e⟩) nd.1
      · rw [if_neg e]; exact ih nd.2 h
/-- the tables say what the candidates PD say; k0 may be there without one -/
structure RS (L : TabL) (F : TabF) (k0 : KK → Prop) (PD : KK → Nat → Int → Prop) : Prop where
  key : ∀ k, k ∈ L.map (·.1) ↔ k0 k ∨ ∃ q c, PD k q c
  val : ∀ k b, (k, b) ∈ L → ∀ q c, assoc (F b) q = some c → PD k q c ∧ ∀ d, PD k q d → c ≤ d
  has : ∀ k b, (k, b) ∈ L → ∀ q c, PD k q c → (assoc (F b) q).isSome = true
/-- one more candidate -/
def addC (PD : KK → Nat → Int → Prop) (k : KK) (q : Nat) (c : Int) : KK → Nat → Int → Prop := fun k' q' c' => PD k' q' c' ∨ (k' = k ∧ q' = q ∧ c' = c)
section
variable {L : TabL} {F : TabF} {k0 : KK → Prop} {PD PD' : KK → Nat → Int → Prop}
theorem RS.congr (h : RS L F k0 PD) (e : ∀ k q c, PD k q c ↔ PD' k q c) : RS L F k0 PD' :=
  ⟨fun k => (h.key k).trans ⟨fun g => g.imp id fun ⟨q, c, x⟩ => ⟨q, c, (e _ _ _).1 x⟩, fun g => g.imp id fun ⟨q, c, x⟩ => ⟨q, c, (e _ _ _).2 x⟩⟩,
    fun k b hb q c hc => ⟨(e _ _ _).1 (h.val k b hb q c hc).1, fun d hd => (h.val k b hb q c hc).2 d ((e _ _ _).2 hd)⟩,
    fun k b hb q c hc => h.has k b hb q c ((e _ _ _).2 hc)⟩
theorem RS.start : RS [] (fun _ => []) (fun _ => False) (fun _ _ _ => False) := ⟨by simp, by simp, by simp⟩
/-- a key that is there -/
theorem RS.old (h : RS L F (fun _ => False) PD) {k : KK} (hk : k ∈ L.map (·.1)) : RS L F (fun x => x = k) PD :=
  ⟨fun x => ⟨fun g => .inr (((h.key x).1 g).resolve_left id), fun g => by
    rcases g with g | g
    · subst g; exact hk
    · exact (h.key x).2 (.inr g)⟩, h.val, h.has⟩
/-- a new key -/
theorem RS.new (h : RS L F (fun _ => False) PD) {k : KK} (hk : k ∉ L.map (·.1)) {b : Nat} (hb : ∀ x ∈ L, x.2 ≠ b) : RS (L ++ [(k, b)]) (fun b' => if b' = b then [] else F b') (fun x => x = k) PD := by
  have hno : ∀ q c, ¬ PD k q c := fun q c hc => hk ((h.key k).2 (.inr ⟨q, c, hc⟩))
  refine ⟨fun x => ?_, fun x b' hx q c hc => ?_, fun x b' hx q c hc => ?_⟩
  · rw [List.map_append, List.mem_append, h.key]
    simp only [List.map_cons, List.map_nil, List.mem_singleton, false_or]
    exact ⟨fun g => g.symm, fun g => g.symm⟩
  · rcases List.mem_append.1 hx with hx | hx
    · rw [if_neg (hb _ hx)] at hc; exact h.val x b' hx q c hc
    · simp only [List.mem_singleton, Prod.mk.injEq] at hx
      rw [if_pos hx.2] at hc; cases hc
  · rcases List.mem_append.1 hx with hx | hx
    · rw [if_neg (hb _ hx)]; exact h.has x b' hx q c hc
    · simp only [List.mem_singleton, Prod.mk.injEq] at hx
      rw [hx.1] at hc; exact absurd hc (hno q c)
/-- a candidate that is not less -/
theorem RS.keep {k : KK} (h : RS L F (fun x => x = k) PD) {b q : Nat} {c w : Int} (hb : (k, b) ∈ L) (hu : ∀ b', (k, b') ∈ L → b' = b) (hw : assoc (F b) q = some w) (hle : ¬ c < w) : RS L F (fun _ => False) (addC PD k q c) := by
  refine ⟨fun x => ?_, fun x b' hx q' c' hc => ?_, fun x b' hx q' c' hc => ?_⟩
  · rw [h.key]
    constructor
    · rintro (g | ⟨q', c', g⟩)
      · exact .inr ⟨q, c, .inr ⟨g, rfl, rfl⟩⟩
      · exact .inr ⟨q', c', .inl g⟩
    · rintro (g | ⟨q', c', g | g⟩)
      · exact g.elim
      · exact .inr ⟨q', c', g⟩
      · exact .inl g.1
  · obtain ⟨h1, h2⟩ := h.val x b' hx q' c' hc
    refine ⟨.inl h1, fun d hd => ?_⟩
    rcases hd with hd | ⟨e1, e2, e3⟩
    · exact h2 d hd
    · subst e1; subst e2; subst e3
      rw [hu b' hx, hw] at hc
      injection hc with hc; omega
  · rcases hc with hc | ⟨e1, e2, e3⟩
    · exact h.has x b' hx q' c' hc
    · subst e1; subst e2
      rw [hu b' hx, hw]; rfl
/-- a candidate that is less, or the first one -/
theorem RS.put {k : KK} (h : RS L F (fun x => x = k) PD) {b q : Nat} {c : Int} (hb : (k, b) ∈ L) (hu : ∀ b', (k, b') ∈ L → b' = b) (hk : ∀ x, (x, b) ∈ L → x = k) (hw : ∀ w, assoc (F b) q = some w → c < w) : RS L (fun b' => if b' = b then mput (F b) q c else F b') (fun _ => False) (addC PD k q c) := by
  refine ⟨fun x => ?_, fun x b' hx q' c' hc => ?_, fun x b' hx q' c' hc => ?_⟩
  · rw [h.key]
    constructor
    · rintro (g | ⟨q', c', g⟩)
      · exact .inr ⟨q, c, .inr ⟨g, rfl, rfl⟩⟩
      · exact .inr ⟨q', c', .inl g⟩
    · rintro (g | ⟨q', c', g | g⟩)
      · exact g.elim
      · exact .inr ⟨q', c', g⟩
      · exact .inl g.1
  · by_cases e : b' = b
    · subst e
      obtain rfl := hk x hx
      rw [if_pos rfl, assoc_mput] at hc
      by_cases e2 : q' = q
      · subst e2
        rw [if_pos rfl] at hc
        obtain rfl := Option.some.inj hc
        refine ⟨.inr ⟨rfl, rfl, rfl⟩, fun d hd => ?_⟩
        rcases hd with hd | ⟨-, -, hd⟩
        · have h3 := h.has x b' hx q' d hd
          cases ha : assoc (F b') q' with
          | none => rw [ha] at h3; cases h3
          | some w =>
            have h4 := hw w ha
            have h5 := (h.val x b' hx q' w ha).2 d hd
            omega
        · omega
      · rw [if_neg e2] at hc
        obtain ⟨h1, h2⟩ := h.val x b' hx q' c' hc
        refine ⟨.inl h1, fun d hd => ?_⟩
        rcases hd with hd | ⟨-, hd, -⟩
        · exact h2 d hd
        · exact absurd hd e2
    · rw [if_neg e] at hc
      obtain ⟨h1, h2⟩ := h.val x b' hx q' c' hc
      refine ⟨.inl h1, fun d hd => ?_⟩
      rcases hd with hd | ⟨hd, -, -⟩
      · exact h2 d hd
      · subst hd; exact absurd (hu b' hx) e
  · by_cases e : b' = b
    · subst e
      obtain rfl := hk x hx
      rw [if_pos rfl, assoc_mput]
      by_cases e2 : q' = q
      · rw [if_pos e2]; rfl
      · rw [if_neg e2]
        rcases hc with hc | ⟨-, hc, -⟩
        · exact h.has x b' hx q' c' hc
        · exact absurd hc e2
    · rw [if_neg e]
      rcases hc with hc | ⟨hc, -, -⟩
      · exact h.has x b' hx q' c' hc
      · subst hc; exact absurd (hu b' hx) e
end
/-- candidates of the first i parts and of the first r arcs of the next one -/
def PDone (m : MachL) (S : SetL) (i r : Nat) (k : KK) (q : Nat) (c : Int) : Prop := ∃ (j : Nat) (p : Nat × Int), S[j]? = some p ∧ ∃ (t : Nat) (a : ArcL), (arcsQ m p.1)[t]? = some a ∧ (j < i ∨ (j = i ∧ t < r)) ∧ kOf a = k ∧ a.to.toNat = q ∧ p.2 + a.wt = c
theorem PDone.zero (m : MachL) (S : SetL) (k : KK) (q : Nat) (c : Int) : PDone m S 0 0 k q c ↔ False := by
  refine ⟨?_, False.elim⟩
  rintro ⟨j, p, -, t, a, -, h, -⟩
  omega
theorem PDone.step {m : MachL} {S : SetL} {i r : Nat} (hi : i < S.length) (hr : r < (arcsQ m S[i].1).length) (k : KK) (q : Nat) (c : Int) :
    PDone m S i (r + 1) k q c ↔ addC (PDone m S i r) (kOf (arcsQ m S[i].1)[r]) (arcsQ m S[i].1)[r].to.toNat (S[i].2 + (arcsQ m S[i].1)[r].wt) k q c := by
  constructor
  · rintro ⟨j, p, hj, t, a, ha, h, h1, h2, h3⟩
    by_cases e : j = i ∧ t = r
    · obtain ⟨rfl, rfl⟩ := e
      rw [List.getElem?_eq_getElem hi] at hj
      obtain rfl := Option.some.inj hj
      rw [List.getElem?_eq_getElem hr] at ha
      obtain rfl := Option.some.inj ha
      exact .inr ⟨h1.symm, h2.symm, h3.symm⟩
    · exact .inl ⟨j, p, hj, t, a, ha, by omega, h1, h2, h3⟩
  · rintro (⟨j, p, hj, t, a, ha, h, h1, h2, h3⟩ | ⟨h1, h2, h3⟩)
    · exact ⟨j, p, hj, t, a, ha, by omega, h1, h2, h3⟩
    · exact ⟨i, _, List.getElem?_eq_getElem hi, r, _, List.getElem?_eq_getElem hr, by omega, h1.symm, h2.symm, h3.symm⟩
theorem PDone.next {m : MachL} {S : SetL} {i : Nat} (hi : i < S.length) {n : Nat} (hn : n = (arcsQ m S[i].1).length) (k : KK) (q : Nat) (c : Int) : PDone m S i n k q c ↔ PDone m S (i + 1) 0 k q c := by
  subst hn
  constructor
  · rintro ⟨j, p, hj, t, a, ha, h, h1, h2, h3⟩
    exact ⟨j, p, hj, t, a, ha, by omega, h1, h2, h3⟩
  · rintro ⟨j, p, hj, t, a, ha, h, h1, h2, h3⟩
    refine ⟨j, p, hj, t, a, ha, ?_, h1, h2, h3⟩
    by_cases e : j = i
    · subst e
      rw [List.getElem?_eq_getElem hi] at hj
      obtain rfl := Option.some.inj hj
      exact .inr ⟨rfl, (List.getElem?_eq_some_iff.1 ha).1⟩
    · omega
theorem PDone.all (m : MachL) (S : SetL) (k : KK) (q : Nat) (c : Int) : PDone m S S.length 0 k q c ↔ Cand m S k.1 k.2 q c := by
  constructor
  · rintro ⟨j, p, hj, t, a, ha, h, h1, h2, h3⟩
    subst h1
    exact ⟨p, List.mem_of_getElem? hj, a, List.mem_of_getElem? ha, rfl, rfl, h2, h3⟩
  · rintro ⟨p, hp, a, ha, h1, h2, h3, h4⟩
    obtain ⟨j, hj⟩ := List.getElem?_of_mem hp
    obtain ⟨t, ht⟩ := List.getElem?_of_mem ha
    exact ⟨j, p, hj, t, a, ht, .inl (List.getElem?_eq_some_iff.1 hj).1, Prod.ext h1 h2, h3, h4⟩

abbrev mapV (b : Nat) : Value := .map (some b)
/-- the tables in memory, behind the box of the machine -/
structure RcW (w : World) (A : Option Addr) (n c : Nat) (st : Int) (W : World) (L : TabL) (F : TabF) : Prop where
  box : Blk W w.heap.size #[.int .i64 st, .slice A n c] 41
  map : MapB W (w.heap.size + 1) pairV mapV L
  inn : ∀ x ∈ L, MapB W x.2 natV intV (F x.2) ∧ w.heap.size + 2 ≤ x.2
  uni : ∀ x ∈ L, ∀ y ∈ L, x.2 = y.2 → x = y
  bel : Below w.heap.size w W
theorem Blk.setMap {w : World} {b bt : Nat} {cs : Array Value} {t : TypeId} {κ ν : Type} {c : κ → Value} {d : ν → Value} {l : List (κ × ν)} (h : Blk w b cs t) (hm : MapB w bt c d l) (o : Obj) : Blk (setBlock w bt o) b cs t :=
  h.kept (setBlock_ne fun e => by subst e; have h1 := h; unfold Blk at h1; rw [hm.blk] at h1; cases h1)
section
variable {w W W' : World} {A : Option Addr} {n c : Nat} {st : Int} {L : TabL} {F : TabF}
theorem RcW.keep (h : RcW w A n c st W L F) (hb : Below W.heap.size W W') : RcW w A n c st W' L F :=
  ⟨h.box.step hb, h.map.below hb (Nat.le_refl _), fun x hx => ⟨(h.inn x hx).1.below hb (Nat.le_refl _), (h.inn x hx).2⟩, h.uni, h.bel.trans (hb.mono h.bel.size)⟩
theorem RcW.drew (h : RcW w A n c st W L F) : RcW w A n c st W.drew L F := h.keep (Below.refl _ _).drew
theorem RcW.one (h : RcW w A n c st W L F) {k : KK} {b : Nat} (hb : (k, b) ∈ L) : (∀ b', (k, b') ∈ L → b' = b) ∧ ∀ x, (x, b) ∈ L → x = k := by
  refine ⟨fun b' hb' => ?_, fun x hx => ?_⟩
  · have h1 := (mem_assoc h.map.nd).1 hb; have h2 := (mem_assoc h.map.nd).1 hb'
    rw [h1] at h2
    exact (Option.some.inj h2).symm
  · have := h.uni _ hx _ hb rfl
    exact congrArg Prod.fst this
theorem RcW.mapLt (h : RcW w A n c st W L F) : w.heap.size + 1 < W.heap.size := h.map.lt
theorem below_set {B b : Nat} {o : Obj} (h : Below B w W) (hb : B ≤ b) (hB : B ≤ W.heap.size) : Below B w (setBlock W b o) := h.grown (setBlock_grown (b := b) o) hB (fun j hj => by simp at hj; omega)
/-- a new pair of labels -/
theorem RcW.newK (h : RcW w A n c st W L F) {k : KK} (hk : k ∉ L.map (·.1)) :
    RcW w A n c st (setBlock (W.alloc (.map #[] 0)) (w.heap.size + 1) (mapObj pairV mapV (mput L k W.heap.size))) (L ++ [(k, W.heap.size)]) (fun b' => if b' = W.heap.size then [] else F b') := by
  have hl := h.mapLt
  have ha : Below W.heap.size W (W.alloc (.map #[] 0)) := (Below.refl _ _).alloc (Nat.le_refl _) _
  have h1 := h.keep ha
  have hn : MapB (W.alloc (.map #[] 0)) W.heap.size natV intV [] := MapB.made W _ rfl _ _
  have hg : (W.alloc (.map #[] 0)).grownBy (setBlock (W.alloc (.map #[] 0)) (w.heap.size + 1) (mapObj pairV mapV (mput L k W.heap.size))) (some (w.heap.size + 1)) := setBlock_grown _
  have e : mput L k W.heap.size = L ++ [(k, W.heap.size)] := mput_new hk
  have hlt : ∀ x ∈ L, x.2 < W.heap.size := fun x hx => (h.inn x hx).1.lt
  refine ⟨h1.box.setMap h1.map _, ?_, ?_, ?_, below_set h1.bel (by omega) h1.bel.size⟩
  · rw [← e]; exact h1.map.put k _
  · intro x hx
    rcases List.mem_append.1 hx with hx | hx
    · have h2 := hlt x hx
      rw [if_neg (by omega)]
      refine ⟨(h1.inn x hx).1.grown hg ?_, (h1.inn x hx).2⟩
      intro e2; injection e2 with e2
      have := (h1.inn x hx).2; omega
    · simp only [List.mem_singleton] at hx
      subst hx
      simp only [if_true]
      exact ⟨hn.grown hg (by intro e2; injection e2 with e2; omega), by omega⟩
  · intro x hx y hy e2
    rcases List.mem_append.1 hx with hx | hx <;> rcases List.mem_append.1 hy with hy | hy
    · exact h.uni x hx y hy e2
    · simp only [List.mem_singleton] at hy; subst hy; have := hlt x hx; simp only at e2; omega
    · simp only [List.mem_singleton] at hx; subst hx; have := hlt y hy; simp only at e2; omega
    · simp only [List.mem_singleton] at hx hy; rw [hx, hy]
/-- a cost is put down -/
theorem RcW.putI (h : RcW w A n c st W L F) {k : KK} {b : Nat} (hb : (k, b) ∈ L) (q : Nat) (v : Int) :
    RcW w A n c st (setBlock W b (mapObj natV intV (mput (F b) q v))) L (fun b' => if b' = b then mput (F b) q v else F b') := by
  have h2 := (h.inn _ hb).2; have hm := (h.inn _ hb).1
  simp only at h2 hm
  have hg : W.grownBy (setBlock W b (mapObj natV intV (mput (F b) q v))) (some b) := setBlock_grown _
  refine ⟨h.box.setMap hm _, h.map.grown hg (by intro e; injection e with e; omega), ?_, h.uni, below_set h.bel (by omega) h.bel.size⟩
  intro x hx
  refine ⟨?_, (h.inn x hx).2⟩
  by_cases e : x.2 = b
  · rw [if_pos e, e]; exact hm.put q v
  · rw [if_neg e]; exact (h.inn x hx).1.grown hg (by intro e2; injection e2 with e2; exact e e2)
theorem zeroMapR (w : World) : (zeroValue 101).run Tryd.prog w = .ok (.map none) w := by kernel_rfl
theorem zeroIntC (w : World) : (zeroValue 3).run Tryd.prog w = .ok (.int .i64 0) w := by kernel_rfl
theorem RcW.lookK (h : RcW w A n c st W L F) {k : KK} {b : Nat} (hk : assoc L k = some b) : (Instr.lookup 137 (.map (some (w.heap.size + 1))) (.agg #[.int .i64 k.1, .int .i64 k.2]) false).run Tryd.prog W = .ok (.map (some b)) W := by
  have e := run_lookup_x h.map keyOkPair Tryd.underlying137 k false (zeroMapR W)
  rw [hk] at e; exact e
theorem RcW.lookN (h : RcW w A n c st W L F) {k : KK} (hk : assoc L k = none) : (Instr.lookup 137 (.map (some (w.heap.size + 1))) (.agg #[.int .i64 k.1, .int .i64 k.2]) false).run Tryd.prog W = .ok (.map none) W := by
  have e := run_lookup_x h.map keyOkPair Tryd.underlying137 k false (zeroMapR W)
  rw [hk] at e; exact e
theorem RcW.lookI (h : RcW w A n c st W L F) {k : KK} {b : Nat} (hb : (k, b) ∈ L) (q : Nat) {v : Int} (hv : assoc (F b) q = some v) : (Instr.lookup 101 (.map (some b)) (.int .i64 (q : Int)) true).run Tryd.prog W = .ok (.tuple #[.int .i64 v, .bool true]) W := by
  have e := run_lookup_x (h.inn _ hb).1 keyOkNat Tryd.underlying101 q true (zeroIntC W)
  simp only [hv] at e; exact e
theorem RcW.lookIN (h : RcW w A n c st W L F) {k : KK} {b : Nat} (hb : (k, b) ∈ L) (q : Nat) (hv : assoc (F b) q = none) : (Instr.lookup 101 (.map (some b)) (.int .i64 (q : Int)) true).run Tryd.prog W = .ok (.tuple #[.int .i64 0, .bool false]) W := by
  have e := run_lookup_x (h.inn _ hb).1 keyOkNat Tryd.underlying101 q true (zeroIntC W)
  simp only [hv] at e; exact e
theorem RcW.updK (h : RcW w A n c st W L F) (k : KK) : (Instr.mapUpdate 137 (.map (some (w.heap.size + 1))) (.agg #[.int .i64 k.1, .int .i64 k.2]) (.map (some W.heap.size))).run Tryd.prog (W.alloc (.map #[] 0)) = .ok () (setBlock (W.alloc (.map #[] 0)) (w.heap.size + 1) (mapObj pairV mapV (mput L k W.heap.size))) :=
  run_mapUpdate_x (h.keep (W' := W.alloc (.map #[] 0)) ((Below.refl _ _).alloc (Nat.le_refl _) _)).map keyOkPair Tryd.underlying137 k W.heap.size
theorem RcW.updI (h : RcW w A n c st W L F) {k : KK} {b : Nat} (hb : (k, b) ∈ L) (q : Nat) (v : Int) : (Instr.mapUpdate 101 (.map (some b)) (.int .i64 (q : Int)) (.int .i64 v)).run Tryd.prog W = .ok () (setBlock W b (mapObj natV intV (mput (F b) q v))) :=
  run_mapUpdate_x (h.inn _ hb).1 keyOkNat Tryd.underlying101 q v
end
end Go.Proofs.YtkmnacchiagipaaDoor
