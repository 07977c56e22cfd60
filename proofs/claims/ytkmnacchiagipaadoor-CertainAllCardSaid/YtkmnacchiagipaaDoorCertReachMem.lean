/- certain: what pairs of labels lead to, as a map of maps. -/
/- certain: what ending in a set costs. -/
/- certain: what pairs of labels lead to from a set. -/
import Derived.Test.YtkmnacchiagipaaDoorCertKeyPl
import Derived.LoopTactic
import Derived.IntWalk
import Derived.StillTailTactics
import Derived.BigQuiet
import Derived.Deep.DeepCutAuto
import Derived.RegionTactic
namespace Go.Proofs.YtkmnacchiagipaaDoor
open Go.RowKit
open Go.ChangeMaps (setBlock)

abbrev KK := Int × Int
abbrev TabL := List (KK × Nat)
abbrev TabF := Nat → List (Nat × Int)
theorem mem_assoc {κ ν : Type} [DecidableEq κ] {l : List (κ × ν)} (nd : (l.map (·.1)).Nodup) {x : κ} {w : ν} : (x, w) ∈ l ↔ assoc l x = some w := by
  refine ⟨fun h => ?_, assoc_mem⟩
  induction l with
  | nil => cases h
  | cons p l ih =>
    rw [List.map_cons, List.nodup_cons] at nd
    simp only [assoc]
    rcases List.mem_cons.1 h with h | h
    · subst h; simp
    · by_cases e : x = p.1
      · exact absurd (List.mem_map.2 ⟨_, h, by exact e⟩) nd.1
      · rw [if_neg e]; exact ih nd.2 h
/-- the tables say what the candidates PD say; k0 may be there without one -/
structure RS (L : TabL) (F : TabF) (k0 : KK → Prop) (PD : KK → Nat → Int → Prop) : Prop where
  key : ∀ k, k ∈ L.map (·.1) ↔ k0 k ∨ ∃ q c, PD k q c
  val : ∀ k b, (k, b) ∈ L → ∀ q c, assoc (F b) q = some c → PD k q c ∧ ∀ d, PD k q d → c ≤ d
  has : ∀ k b, (k, b) ∈ L → ∀ q c, PD k q c → (assoc (F b) q).isSome = true
/-- one more candidate -/
def addC (PD : KK → Nat → Int → Prop) (k : KK) (q : Nat) (c : Int) : KK → Nat → Int → Prop := fun k' q' c' => PD k' q' c' ∨ (k' = k ∧ q' = q ∧ c' = c)
section
variable {L : TabL} {F : TabF} {k0 : KK → Prop} {PD PD' : KK → Nat → Int → Prop}
theorem RS.congr (h : RS L F k0 PD) (e : ∀ k q c, PD k q c ↔ PD' k q c) : RS L F k0 PD' :=
  ⟨fun k => (h.key k).trans ⟨fun g => g.imp id fun ⟨q, c, x⟩ => ⟨q, c, (e _ _ _).1 x⟩, fun g => g.imp id fun ⟨q, c, x⟩ => ⟨q, c, (e _ _ _).2 x⟩⟩,
    fun k b hb q c hc => ⟨(e _ _ _).1 (h.val k b hb q c hc).1, fun d hd => (h.val k b hb q c hc).2 d ((e _ _ _).2 hd)⟩,
    fun k b hb q c hc => h.has k b hb q c ((e _ _ _).2 hc)⟩
theorem RS.start : RS [] (fun _ => []) (fun _ => False) (fun _ _ _ => False) := ⟨by simp, by simp, by simp⟩
/-- a key that is there -/
theorem RS.old (h : RS L F (fun _ => False) PD) {k : KK} (hk : k ∈ L.map (·.1)) : RS L F (fun x => x = k) PD :=
  ⟨fun x => ⟨fun g => .inr (((h.key x).1 g).resolve_left id), fun g => by
    rcases g with g | g
    · subst g; exact hk
    · exact (h.key x).2 (.inr g)⟩, h.val, h.has⟩
/-- a new key -/
theorem RS.new (h : RS L F (fun _ => False) PD) {k : KK} (hk : k ∉ L.map (·.1)) {b : Nat} (hb : ∀ x ∈ L, x.2 ≠ b) : RS (L ++ [(k, b)]) (fun b' => if b' = b then [] else F b') (fun x => x = k) PD := by
  have hno : ∀ q c, ¬ PD k q c := fun q c hc => hk ((h.key k).2 (.inr ⟨q, c, hc⟩))
  refine ⟨fun x => ?_, fun x b' hx q c hc => ?_, fun x b' hx q c hc => ?_⟩
  · rw [List.map_append, List.mem_append, h.key]
    simp only [List.map_cons, List.map_nil, List.mem_singleton, false_or]
    exact ⟨fun g => g.symm, fun g => g.symm⟩
  · rcases List.mem_append.1 hx with hx | hx
    · rw [if_neg (hb _ hx)] at hc; exact h.val x b' hx q c hc
    · simp only [List.mem_singleton, Prod.mk.injEq] at hx
      rw [if_pos hx.2] at hc; cases hc
  · rcases List.mem_append.1 hx with hx | hx
    · rw [if_neg (hb _ hx)]; exact h.has x b' hx q c hc
    · simp only [List.mem_singleton, Prod.mk.injEq] at hx
      rw [hx.1] at hc; exact absurd hc (hno q c)
/-- a candidate that is not less -/
theorem RS.keep {k : KK} (h : RS L F (fun x => x = k) PD) {b q : Nat} {c w : Int} (hb : (k, b) ∈ L) (hu : ∀ b', (k, b') ∈ L → b' = b) (hw : assoc (F b) q = some w) (hle : ¬ c < w) : RS L F (fun _ => False) (addC PD k q c) := by
  refine ⟨fun x => ?_, fun x b' hx q' c' hc => ?_, fun x b' hx q' c' hc => ?_⟩
  · rw [h.key]
    constructor
    · rintro (g | ⟨q', c', g⟩)
      · exact .inr ⟨q, c, .inr ⟨g, rfl, rfl⟩⟩
      · exact .inr ⟨q', c', .inl g⟩
    · rintro (g | ⟨q', c', g | g⟩)
      · exact g.elim
      · exact .inr ⟨q', c', g⟩
      · exact .inl g.1
  · obtain ⟨h1, h2⟩ := h.val x b' hx q' c' hc
    refine ⟨.inl h1, fun d hd => ?_⟩
    rcases hd with hd | ⟨e1, e2, e3⟩
    · exact h2 d hd
    · subst e1; subst e2; subst e3
      rw [hu b' hx, hw] at hc
      injection hc with hc; omega
  · rcases hc with hc | ⟨e1, e2, e3⟩
    · exact h.has x b' hx q' c' hc
    · subst e1; subst e2
      rw [hu b' hx, hw]; rfl
/-- a candidate that is less, or the first one -/
theorem RS.put {k : KK} (h : RS L F (fun x => x = k) PD) {b q : Nat} {c : Int} (hb : (k, b) ∈ L) (hu : ∀ b', (k, b') ∈ L → b' = b) (hk : ∀ x, (x, b) ∈ L → x = k) (hw : ∀ w, assoc (F b) q = some w → c < w) : RS L (fun b' => if b' = b then mput (F b) q c else F b') (fun _ => False) (addC PD k q c) := by
  refine ⟨fun x => ?_, fun x b' hx q' c' hc => ?_, fun x b' hx q' c' hc => ?_⟩
  · rw [h.key]
    constructor
    · rintro (g | ⟨q', c', g⟩)
      · exact .inr ⟨q, c, .inr ⟨g, rfl, rfl⟩⟩
      · exact .inr ⟨q', c', .inl g⟩
    · rintro (g | ⟨q', c', g | g⟩)
      · exact g.elim
      · exact .inr ⟨q', c', g⟩
      · exact .inl g.1
  · by_cases e : b' = b
    · subst e
      obtain rfl := hk x hx
      rw [if_pos rfl, assoc_mput] at hc
      by_cases e2 : q' = q
      · subst e2
        rw [if_pos rfl] at hc
        obtain rfl := Option.some.inj hc
        refine ⟨.inr ⟨rfl, rfl, rfl⟩, fun d hd => ?_⟩
        rcases hd with hd | ⟨-, -, hd⟩
        · have h3 := h.has x b' hx q' d hd
          cases ha : assoc (F b') q' with
          | none => rw [ha] at h3; cases h3
          | some w =>
            have h4 := hw w ha
            have h5 := (h.val x b' hx q' w ha).2 d hd
            omega
        · omega
      · rw [if_neg e2] at hc
        obtain ⟨h1, h2⟩ := h.val x b' hx q' c' hc
        refine ⟨.inl h1, fun d hd => ?_⟩
        rcases hd with hd | ⟨-, hd, -⟩
        · exact h2 d hd
        · exact absurd hd e2
    · rw [if_neg e] at hc
      obtain ⟨h1, h2⟩ := h.val x b' hx q' c' hc
      refine ⟨.inl h1, fun d hd => ?_⟩
      rcases hd with hd | ⟨hd, -, -⟩
      · exact h2 d hd
      · subst hd; exact absurd (hu b' hx) e
  · by_cases e : b' = b
    · subst e
      obtain rfl := hk x hx
      rw [if_pos rfl, assoc_mput]
      by_cases e2 : q' = q
      · rw [if_pos e2]; rfl
      · rw [if_neg e2]
        rcases hc with hc | ⟨-, hc, -⟩
        · exact h.has x b' hx q' c' hc
        · exact absurd hc e2
    · rw [if_neg e]
      rcases hc with hc | ⟨hc, -, -⟩
      · exact h.has x b' hx q' c' hc
      · subst hc; exact absurd (hu b' hx) e
end
/-- candidates of the first i parts and of the first r arcs of the next one -/
def PDone (m : MachL) (S : SetL) (i r : Nat) (k : KK) (q : Nat) (c : Int) : Prop := ∃ (j : Nat) (p : Nat × Int), S[j]? = some p ∧ ∃ (t : Nat) (a : ArcL), (arcsQ m p.1)[t]? = some a ∧ (j < i ∨ (j = i ∧ t < r)) ∧ kOf a = k ∧ a.to.toNat = q ∧ p.2 + a.wt = c
theorem PDone.zero (m : MachL) (S : SetL) (k : KK) (q : Nat) (c : Int) : PDone m S 0 0 k q c ↔ False := by
  refine ⟨?_, False.elim⟩
  rintro ⟨j, p, -, t, a, -, h, -⟩
  omega
theorem PDone.step {m : MachL} {S : SetL} {i r : Nat} (hi : i < S.length) (hr : r < (arcsQ m S[i].1).length) (k : KK) (q : Nat) (c : Int) :
    PDone m S i (r + 1) k q c ↔ addC (PDone m S i r) (kOf (arcsQ m S[i].1)[r]) (arcsQ m S[i].1)[r].to.toNat (S[i].2 + (arcsQ m S[i].1)[r].wt) k q c := by
  constructor
  · rintro ⟨j, p, hj, t, a, ha, h, h1, h2, h3⟩
    by_cases e : j = i ∧ t = r
    · obtain ⟨rfl, rfl⟩ := e
      rw [List.getElem?_eq_getElem hi] at hj
      obtain rfl := Option.some.inj hj
      rw [List.getElem?_eq_getElem hr] at ha
      obtain rfl := Option.some.inj ha
      exact .inr ⟨h1.symm, h2.symm, h3.symm⟩
    · exact .inl ⟨j, p, hj, t, a, ha, by omega, h1, h2, h3⟩
  · rintro (⟨j, p, hj, t, a, ha, h, h1, h2, h3⟩ | ⟨h1, h2, h3⟩)
    · exact ⟨j, p, hj, t, a, ha, by omega, h1, h2, h3⟩
    · exact ⟨i, _, List.getElem?_eq_getElem hi, r, _, List.getElem?_eq_getElem hr, by omega, h1.symm, h2.symm, h3.symm⟩
theorem PDone.next {m : MachL} {S : SetL} {i : Nat} (hi : i < S.length) {n : Nat} (hn : n = (arcsQ m S[i].1).length) (k : KK) (q : Nat) (c : Int) : PDone m S i n k q c ↔ PDone m S (i + 1) 0 k q c := by
  subst hn
  constructor
  · rintro ⟨j, p, hj, t, a, ha, h, h1, h2, h3⟩
    exact ⟨j, p, hj, t, a, ha, by omega, h1, h2, h3⟩
  · rintro ⟨j, p, hj, t, a, ha, h, h1, h2, h3⟩
    refine ⟨j, p, hj, t, a, ha, ?_, h1, h2, h3⟩
    by_cases e : j = i
    · subst e
      rw [List.getElem?_eq_getElem hi] at hj
      obtain rfl := Option.some.inj hj
      exact .inr ⟨rfl, (List.getElem?_eq_some_iff.1 ha).1⟩
    · omega
theorem PDone.all (m : MachL) (S : SetL) (k : KK) (q : Nat) (c : Int) : PDone m S S.length 0 k q c ↔ Cand m S k.1 k.2 q c := by
  constructor
  · rintro ⟨j, p, hj, t, a, ha, h, h1, h2, h3⟩
    subst h1
    exact ⟨p, List.mem_of_getElem? hj, a, List.mem_of_getElem? ha, rfl, rfl, h2, h3⟩
  · rintro ⟨p, hp, a, ha, h1, h2, h3, h4⟩
    obtain ⟨j, hj⟩ := List.getElem?_of_mem hp
    obtain ⟨t, ht⟩ := List.getElem?_of_mem ha
    exact ⟨j, p, hj, t, a, ht, .inl (List.getElem?_eq_some_iff.1 hj).1, Prod.ext h1 h2, h3, h4⟩

abbrev mapV (b : Nat) : Value := .map (some b)
/-- the tables in memory, behind the box of the machine -/
structure RcW (w : World) (A : Option Addr) (n c : Nat) (st : Int) (W : World) (L : TabL) (F : TabF) : Prop where
  box : Blk W w.heap.size #[.int .i64 st, .slice A n c] 41
  map : MapB W (w.heap.size + 1) pairV mapV L
  inn : ∀ x ∈ L, MapB W x.2 natV intV (F x.2) ∧ w.heap.size + 2 ≤ x.2
  uni : ∀ x ∈ L, ∀ y ∈ L, x.2 = y.2 → x = y
  bel : Below w.heap.size w W
theorem Blk.setMap {w : World} {b bt : Nat} {cs : Array Value} {t : TypeId} {κ ν : Type} {c : κ → Value} {d : ν → Value} {l : List (κ × ν)} (h : Blk w b cs t) (hm : MapB w bt c d l) (o : Obj) : Blk (setBlock w bt o) b cs t :=
  h.kept (setBlock_ne fun e => by subst e; have h1 := h; unfold Blk at h1; rw [hm.blk] at h1; cases h1)
section
variable {w W W' : World} {A : Option Addr} {n c : Nat} {st : Int} {L : TabL} {F : TabF}
theorem RcW.keep (h : RcW w A n c st W L F) (hb : Below W.heap.size W W') : RcW w A n c st W' L F :=
  ⟨h.box.step hb, h.map.below hb (Nat.le_refl _), fun x hx => ⟨(h.inn x hx).1.below hb (Nat.le_refl _), (h.inn x hx).2⟩, h.uni, h.bel.trans (hb.mono h.bel.size)⟩
theorem RcW.drew (h : RcW w A n c st W L F) : RcW w A n c st W.drew L F := h.keep (Below.refl _ _).drew
theorem RcW.one (h : RcW w A n c st W L F) {k : KK} {b : Nat} (hb : (k, b) ∈ L) : (∀ b', (k, b') ∈ L → b' = b) ∧ ∀ x, (x, b) ∈ L → x = k := by
  refine ⟨fun b' hb' => ?_, fun x hx => ?_⟩
  · have h1 := (mem_assoc h.map.nd).1 hb; have h2 := (mem_assoc h.map.nd).1 hb'
    rw [h1] at h2
    exact (Option.some.inj h2).symm
  · have := h.uni _ hx _ hb rfl
    exact congrArg Prod.fst this
theorem RcW.mapLt (h : RcW w A n c st W L F) : w.heap.size + 1 < W.heap.size := h.map.lt
theorem below_set {B b : Nat} {o : Obj} (h : Below B w W) (hb : B ≤ b) (hB : B ≤ W.heap.size) : Below B w (setBlock W b o) := h.grown (setBlock_grown (b := b) o) hB (fun j hj => by simp at hj; omega)
/-- a new pair of labels -/
theorem RcW.newK (h : RcW w A n c st W L F) {k : KK} (hk : k ∉ L.map (·.1)) :
    RcW w A n c st (setBlock (W.alloc (.map #[] 0)) (w.heap.size + 1) (mapObj pairV mapV (mput L k W.heap.size))) (L ++ [(k, W.heap.size)]) (fun b' => if b' = W.heap.size then [] else F b') := by
  have hl := h.mapLt
  have ha : Below W.heap.size W (W.alloc (.map #[] 0)) := (Below.refl _ _).alloc (Nat.le_refl _) _
  have h1 := h.keep ha
  have hn : MapB (W.alloc (.map #[] 0)) W.heap.size natV intV [] := MapB.made W _ rfl _ _
  have hg : (W.alloc (.map #[] 0)).grownBy (setBlock (W.alloc (.map #[] 0)) (w.heap.size + 1) (mapObj pairV mapV (mput L k W.heap.size))) (some (w.heap.size + 1)) := setBlock_grown _
  have e : mput L k W.heap.size = L ++ [(k, W.heap.size)] := mput_new hk
  have hlt : ∀ x ∈ L, x.2 < W.heap.size := fun x hx => (h.inn x hx).1.lt
  refine ⟨h1.box.setMap h1.map _, ?_, ?_, ?_, below_set h1.bel (by omega) h1.bel.size⟩
  · rw [← e]; exact h1.map.put k _
  · intro x hx
    rcases List.mem_append.1 hx with hx | hx
    · have h2 := hlt x hx
      rw [if_neg (by omega)]
      refine ⟨(h1.inn x hx).1.grown hg ?_, (h1.inn x hx).2⟩
      intro e2; injection e2 with e2
      have := (h1.inn x hx).2; omega
    · simp only [List.mem_singleton] at hx
      subst hx
      simp only [if_true]
      exact ⟨hn.grown hg (by intro e2; injection e2 with e2; omega), by omega⟩
  · intro x hx y hy e2
    rcases List.mem_append.1 hx with hx | hx <;> rcases List.mem_append.1 hy with hy | hy
    · exact h.uni x hx y hy e2
    · simp only [List.mem_singleton] at hy; subst hy; have := hlt x hx; simp only at e2; omega
    · simp only [List.mem_singleton] at hx; subst hx; have := hlt y hy; simp only at e2; omega
    · simp only [List.mem_singleton] at hx hy; rw [hx, hy]
/-- a cost is put down -/
theorem RcW.putI (h : RcW w A n c st W L F) {k : KK} {b : Nat} (hb : (k, b) ∈ L) (q : Nat) (v : Int) :
    RcW w A n c st (setBlock W b (mapObj natV intV (mput (F b) q v))) L (fun b' => if b' = b then mput (F b) q v else F b') := by
  have h2 := (h.inn _ hb).2; have hm := (h.inn _ hb).1
  simp only at h2 hm
  have hg : W.grownBy (setBlock W b (mapObj natV intV (mput (F b) q v))) (some b) := setBlock_grown _
  refine ⟨h.box.setMap hm _, h.map.grown hg (by intro e; injection e with e; omega), ?_, h.uni, below_set h.bel (by omega) h.bel.size⟩
  intro x hx
  refine ⟨?_, (h.inn x hx).2⟩
  by_cases e : x.2 = b
  · rw [if_pos e, e]; exact hm.put q v
  · rw [if_neg e]; exact (h.inn x hx).1.grown hg (by intro e2; injection e2 with e2; exact e e2)
theorem zeroMapR (w : World) : (zeroValue 101).run Tryd.prog w = .ok (.map none) w := by kernel_rfl
theorem zeroIntC (w : World) : (zeroValue 3).run Tryd.prog w = .ok (.int .i64 0) w := by kernel_rfl
theorem RcW.lookK (h : RcW w A n c st W L F) {k : KK} {b : Nat} (hk : assoc L k = some b) : (Instr.lookup 137 (.map (some (w.heap.size + 1))) (.agg #[.int .i64 k.1, .int .i64 k.2]) false).run Tryd.prog W = .ok (.map (some b)) W := by
  have e := run_lookup_x h.map keyOkPair Tryd.underlying137 k false (zeroMapR W)
  rw [hk] at e; exact e
theorem RcW.lookN (h : RcW w A n c st W L F) {k : KK} (hk : assoc L k = none) : (Instr.lookup 137 (.map (some (w.heap.size + 1))) (.agg #[.int .i64 k.1, .int .i64 k.2]) false).run Tryd.prog W = .ok (.map none) W := by
  have e := run_lookup_x h.map keyOkPair Tryd.underlying137 k false (zeroMapR W)
  rw [hk] at e; exact e
theorem RcW.lookI (h : RcW w A n c st W L F) {k : KK} {b : Nat} (hb : (k, b) ∈ L) (q : Nat) {v : Int} (hv : assoc (F b) q = some v) : (Instr.lookup 101 (.map (some b)) (.int .i64 (q : Int)) true).run Tryd.prog W = .ok (.tuple #[.int .i64 v, .bool true]) W := by
  have e := run_lookup_x (h.inn _ hb).1 keyOkNat Tryd.underlying101 q true (zeroIntC W)
  simp only [hv] at e; exact e
theorem RcW.lookIN (h : RcW w A n c st W L F) {k : KK} {b : Nat} (hb : (k, b) ∈ L) (q : Nat) (hv : assoc (F b) q = none) : (Instr.lookup 101 (.map (some b)) (.int .i64 (q : Int)) true).run Tryd.prog W = .ok (.tuple #[.int .i64 0, .bool false]) W := by
  have e := run_lookup_x (h.inn _ hb).1 keyOkNat Tryd.underlying101 q true (zeroIntC W)
  simp only [hv] at e; exact e
theorem RcW.updK (h : RcW w A n c st W L F) (k : KK) : (Instr.mapUpdate 137 (.map (some (w.heap.size + 1))) (.agg #[.int .i64 k.1, .int .i64 k.2]) (.map (some W.heap.size))).run Tryd.prog (W.alloc (.map #[] 0)) = .ok () (setBlock (W.alloc (.map #[] 0)) (w.heap.size + 1) (mapObj pairV mapV (mput L k W.heap.size))) :=
  run_mapUpdate_x (h.keep (W' := W.alloc (.map #[] 0)) ((Below.refl _ _).alloc (Nat.le_refl _) _)).map keyOkPair Tryd.underlying137 k W.heap.size
theorem RcW.updI (h : RcW w A n c st W L F) {k : KK} {b : Nat} (hb : (k, b) ∈ L) (q : Nat) (v : Int) : (Instr.mapUpdate 101 (.map (some b)) (.int .i64 (q : Int)) (.int .i64 v)).run Tryd.prog W = .ok () (setBlock W b (mapObj natV intV (mput (F b) q v))) :=
  run_mapUpdate_x (h.inn _ hb).1 keyOkNat Tryd.underlying101 q v
end
end Go.Proofs.YtkmnacchiagipaaDoor

namespace Go.Proofs.YtkmnacchiagipaaDoor
open Go.RowKit

def FinJ (m : MachL) (T : SetL) (b : Int) : Prop := (b = -1 ∧ ∀ p ∈ T, finQ m p.1 = INF) ∨
  (0 ≤ b ∧ (∃ p ∈ T, finQ m p.1 ≠ INF ∧ p.2 + finQ m p.1 = b) ∧ ∀ p ∈ T, finQ m p.1 ≠ INF → b ≤ p.2 + finQ m p.1)
theorem FinJ.start (m : MachL) : FinJ m [] (-1) := .inl ⟨rfl, by simp⟩
theorem FinJ.skip {m : MachL} {T : SetL} {b : Int} (h : FinJ m T b) {p : Nat × Int} (hp : finQ m p.1 = INF) : FinJ m (T ++ [p]) b := by
  rcases h with ⟨h1, h2⟩ | ⟨h1, ⟨q, hq, h2, h3⟩, h4⟩
  · refine .inl ⟨h1, fun q hq => ?_⟩
    rcases List.mem_append.1 hq with hq | hq
    · exact h2 q hq
    · simp only [List.mem_singleton] at hq; subst hq; exact hp
  · refine .inr ⟨h1, ⟨q, List.mem_append_left _ hq, h2, h3⟩, fun r hr hf => ?_⟩
    rcases List.mem_append.1 hr with hr | hr
    · exact h4 r hr hf
    · simp only [List.mem_singleton] at hr; subst hr; exact absurd hp hf
theorem FinJ.keep {m : MachL} {T : SetL} {b : Int} (h : FinJ m T b) {p : Nat × Int} (hb : ¬ b < 0) (hp : ¬ p.2 + finQ m p.1 < b) : FinJ m (T ++ [p]) b := by
  rcases h with ⟨h1, h2⟩ | ⟨h1, ⟨q, hq, h2, h3⟩, h4⟩
  · omega
  · refine .inr ⟨h1, ⟨q, List.mem_append_left _ hq, h2, h3⟩, fun r hr hf => ?_⟩
    rcases List.mem_append.1 hr with hr | hr
    · exact h4 r hr hf
    · simp only [List.mem_singleton] at hr; subst hr; omega
theorem FinJ.set {m : MachL} {T : SetL} {b : Int} (h : FinJ m T b) {p : Nat × Int} (hf : finQ m p.1 ≠ INF) (h0 : 0 ≤ p.2 + finQ m p.1) (hb : b < 0 ∨ p.2 + finQ m p.1 < b) : FinJ m (T ++ [p]) (p.2 + finQ m p.1) := by
  refine .inr ⟨h0, ⟨p, by simp, hf, rfl⟩, fun r hr hfr => ?_⟩
  rcases List.mem_append.1 hr with hr | hr
  · rcases h with ⟨h1, h2⟩ | ⟨h1, -, h4⟩
    · exact absurd (h2 r hr) hfr
    · have := h4 r hr hfr; omega
  · simp only [List.mem_singleton] at hr; subst hr; omega
theorem FinJ.fin {m : MachL} {S : SetL} {b : Int} (h : FinJ m S b) (hb : b ≤ 1000000000) : FinS m S (if b < 0 then INF else b) := by
  have e : INF = 1000000001 := rfl
  rcases h with ⟨h1, h2⟩ | ⟨h1, h2, h3⟩
  · rw [if_pos (by omega)]; exact .inl ⟨rfl, h2⟩
  · rw [if_neg (by omega)]; exact .inr ⟨by omega, h2, h3⟩
/-- what is asked of a set that is read beside a machine -/
structure SetOk (m : MachL) (S : SetL) : Prop where
  len : S.length ≤ 60
  p : ∀ p ∈ S, p.1 < m.states.length ∧ 0 ≤ p.2 ∧ p.2 ≤ 900000000
theorem FinJ.bound {m : MachL} {S : SetL} {b : Int} (h : FinJ m S b) (hS : SetOk m S) {WW : Int} (hw : WtC m WW) (hW : WW ≤ 10000000) : b ≤ 910000000 := by
  rcases h with ⟨h1, -⟩ | ⟨-, ⟨p, hp, h2, h3⟩, -⟩
  · omega
  · have := hS.p p hp; have := hw.f _ h2; omega
set_option maxRecDepth 100000 in
set_option maxHeartbeats 4000000 in
theorem final_any (A : Option Addr) (c : Nat) (S : SetL) (B : Option Addr) (cb : Nat) (m : MachL) (WW : Int) (w : World) (hS : SetAt w A S) (hm : StatesAt w B m.states) (hw : WtC m WW) (hW : WW ≤ 10000000) (hok : SetOk m S) :
    Calls Tryd.prog 54 #[.slice A S.length c, .agg #[.int .i64 m.start, .slice B m.states.length cb]] w fun e w' => ∃ b, e = .returned (.int .i64 b) ∧ FinJ m S b ∧ Below w.heap.size w w' := by
  have HS := Lib.hid hS; have HM := Lib.hid hm; have HW := Lib.hid hw; have HOK := Lib.hid hok
  have hn := hok.len
  have rA := hS.rdy; have rB := hm.rdy
  generalize hst : m.start = st at *
  clear hS hm hw hok hst
  go_enter Tryd.func54, Tryd.ntmps54
  go_wp2_with fail
  have M0 := Lib.hid (Blk.new w #[.int .i64 st, .slice B m.states.length cb] 41)
  have b0 : Below w.heap.size w (w.alloc (.cells #[.int .i64 st, .slice B m.states.length cb] 41)) := (Below.refl _ _).alloc (Nat.le_refl _) _
  generalize w.alloc (.cells #[.int .i64 st, .slice B m.states.length cb] 41) = w1 at *
  go_loopw [5, 11] (fun bv iv wr => ∃ (i : Nat) (b : Int), i ≤ S.length ∧ iv = .int .i64 i ∧ bv = .int .i64 b ∧ FinJ m (S.take i) b ∧ Blk wr w.heap.size #[.int .i64 st, .slice B m.states.length cb] 41 ∧ Below w.heap.size w wr) (fun _ iv _ => S.length - (intOf iv).toNat)
  case atStart => exact ⟨0, -1, by omega, rfl, rfl, FinJ.start m, M0.out, b0⟩
  case round =>
    obtain ⟨i, b, hi, rfl, rfl, hF, hM, bel⟩ := hrel
    obtain ⟨wo, rfl⟩ : ∃ wo : World, wo = wr := ⟨_, rfl⟩
    have HF := Lib.hid hF; have HB := Lib.hid hM; have HL := Lib.hid bel
    have i0 : (0 : Int) ≤ (i : Int) := by omega
    clear hF hM bel M0 b0
    by_cases hlt : i < S.length
    · have i1 : (i : Int) < (S.length : Int) := by omega
      have hSr := HS.out.below HL.out (Nat.le_refl _)
      have d0 := hSr.c0 i hlt; have d1 := hSr.c1 i hlt
      have hpo := HOK.out.p _ (List.getElem_mem hlt)
      have HT : Hid (S.take (i + 1) = S.take i ++ [S[i]]) := Lib.hid (by rw [List.take_succ_eq_append_getElem hlt])
      generalize S[i] = p at *
      obtain ⟨q, l⟩ := p
      simp only at d0 d1 hpo
      obtain ⟨hq, hl0, hl1⟩ := hpo
      have hMr := HM.out.below HL.out (Nat.le_refl _)
      have e0 := hMr.c0 q hq
      have hfe : finQ m q = (m.states[q]).final := finQ_eq (List.getElem?_eq_getElem hq)
      rw [← hfe] at e0
      have hfq := HW.out.f q
      have hlA := World.block_lt_of_cell? _ _ d0; have hlB := World.block_lt_of_cell? _ _ e0
      obtain ⟨f, hf⟩ : ∃ f, finQ m q = f := ⟨_, rfl⟩
      have HFE := Lib.hid hf
      rw [hf] at e0 hfq
      have hbb : b ≤ 910000000 := HF.out.bound (WW := WW) ⟨by have := HOK.out.len; rw [List.length_take]; omega, fun p hp => HOK.out.p p (List.mem_of_mem_take hp)⟩ HW.out hW
      have hbn : -1 ≤ b := by rcases HF.out with h | h <;> omega
      have q0 : (0 : Int) ≤ (q : Int) := by omega
      have q1 : (q : Int) < (m.states.length : Int) := by omega
      have kb := HB.out.cell; have kl := HB.out.lt
      have HB2 := Lib.hid (HB.out.alloc (.cells #[.int .i64 (q : Int), .int .i64 l] 130))
      have HL2 := Lib.hid (HL.out.alloc HL.out.size (.cells #[.int .i64 (q : Int), .int .i64 l] 130))
      clear hSr hMr hfe hf
      have e1 : INF = 1000000001 := rfl
      by_cases z1 : f = 1000000001
      · have g1 : (f == 1000000001) = true := by simpa using z1
        have g2 : (f != 1000000001) = false := by simpa using z1
        have HN := Lib.hid (HF.out.skip (p := (q, l)) (by rw [HFE.out, z1]))
        rw [← HT.out] at HN
        clear z1 hfq
        go_wp2_with fail
        go_roundw
        case rel => exact ⟨i + 1, b, by omega, by go_num, rfl, HN.out, HB2.out, HL2.out⟩
        case measure => simp [intOf]; omega
      · have g1 : (f == 1000000001) = false := by simpa using z1
        have g2 : (f != 1000000001) = true := by simpa using z1
        have hf2 := hfq (by rw [e1]; exact z1)
        obtain ⟨f0, f1⟩ := hf2
        by_cases z2 : b < 0 ∨ l + f < b
        · have HN := Lib.hid (HF.out.set (p := (q, l)) (by rw [HFE.out, e1]; exact z1) (by rw [HFE.out]; simp only; omega) (by rw [HFE.out]; exact z2))
          rw [← HT.out, HFE.out] at HN
          simp only at HN
          by_cases z3 : b < 0
          · clear z1 z2 hfq
            go_wp2_with fail
            go_roundw
            case rel => exact ⟨i + 1, _, by omega, by go_num, rfl, HN.out, HB2.out, HL2.out⟩
            case measure => simp [intOf]; omega
          · have z4 : l + f < b := by omega
            clear z1 z2 hfq
            go_wp2_with fail
            go_roundw
            case rel => exact ⟨i + 1, _, by omega, by go_num, rfl, HN.out, HB2.out, HL2.out⟩
            case measure => simp [intOf]; omega
        · have z3 : ¬ b < 0 := by omega
          have z4 : ¬ l + f < b := by omega
          have HN := Lib.hid (HF.out.keep (p := (q, l)) z3 (by rw [HFE.out]; exact z4))
          rw [← HT.out] at HN
          clear z1 z2 hfq
          go_wp2_with fail
          go_roundw
          case rel => exact ⟨i + 1, b, by omega, by go_num, rfl, HN.out, HB2.out, HL2.out⟩
          case measure => simp [intOf]; omega
    · obtain rfl : i = S.length := by omega
      rw [List.take_length] at HF
      go_wp2_with fail
      go_ret
      exact ⟨b, rfl, HF.out, HL.out⟩
end Go.Proofs.YtkmnacchiagipaaDoor

namespace Go.Proofs.YtkmnacchiagipaaDoor
open Go.RowKit
open Go.ChangeMaps (setBlock)

theorem arcQ_c {W : World} {A : Option Addr} {m : MachL} (h : StatesAt W A m.states) {q : Nat} (hq : q < m.states.length) : ∃ A' c', W.cell? ⟨blk A, ofs A + q * 2 + 1, none⟩ = some (.slice A' (arcsQ m q).length c') ∧ ArcsAt W A' (arcsQ m q) := by
  rw [arcsQ_eq (List.getElem?_eq_getElem hq)]
  exact h.c1 q hq
theorem map_nil_eq (w : World) : (binOp BinOp.eql 101 (.map none) (.map none)).run Tryd.prog w = .ok (.bool true) w := by kernel_rfl
theorem map_nil_ne (b : Nat) (w : World) : (binOp BinOp.eql 101 (.map (some b)) (.map none)).run Tryd.prog w = .ok (.bool false) w := by kernel_rfl
set_option maxRecDepth 100000 in
set_option maxHeartbeats 16000000 in
theorem reached_any (A : Option Addr) (c : Nat) (S : SetL) (B : Option Addr) (cb : Nat) (m : MachL) (WW : Int) (w : World) (hS : SetAt w A S) (hm : StatesAt w B m.states) (hw : WtC m WW) (hW : WW ≤ 10000000) (hok : SetOk m S) (hal : ∀ q, (arcsQ m q).length ≤ 400) :
    Calls Tryd.prog 55 #[.slice A S.length c, .agg #[.int .i64 m.start, .slice B m.states.length cb]] w fun e w' => e = .returned (.map (some (w.heap.size + 1))) ∧ ∃ L F, RcW w B m.states.length cb m.start w' L F ∧ RS L F (fun _ => False) (fun k q c => Cand m S k.1 k.2 q c) := by
  have HS := Lib.hid hS; have HM := Lib.hid hm; have HW := Lib.hid hw; have HOK := Lib.hid hok; have HAL := Lib.hid hal
  have hmm := @run_makeMap Tryd.prog
  have hn := hok.len
  have rA := hS.rdy; have rB := hm.rdy
  generalize m.start = st at *
  clear hS hm hw hok hal
  go_enter Tryd.func55, Tryd.ntmps55
  go_wp2_with fail
  have R0 : Hid (RcW w B m.states.length cb st ((w.alloc (.cells #[.int .i64 st, .slice B m.states.length cb] 41)).alloc (.map #[] 0)) [] (fun _ => [])) := Lib.hid ⟨(Blk.new _ _ _).alloc _, MapB.made _ _ (by simp) _ _, by simp, by simp, (by repeat' (first | exact Below.refl _ _ | assumption | refine Below.drew ?_ | refine Below.alloc ?_ (by first | omega | (simp; done) | (simp; omega)) _ | refine Below.setCell ?_ (by first | omega | (simp; done) | (simp; omega)) _))⟩
  generalize (w.alloc (.cells #[.int .i64 st, .slice B m.states.length cb] 41)).alloc (.map #[] 0) = w1 at *
  go_loopw [16] (fun iv wr => ∃ (i : Nat) (L : TabL) (F : TabF), i ≤ S.length ∧ iv = .int .i64 i ∧ RcW w B m.states.length cb st wr L F ∧ RS L F (fun _ => False) (PDone m S i 0)) (fun iv _ => S.length - (intOf iv).toNat)
  case atStart => exact ⟨0, [], _, by omega, rfl, R0.out, RS.start.congr fun k q c => (PDone.zero m S k q c).symm⟩
  case round =>
    clear R0
    obtain ⟨i, L, F, hi, rfl, hR, hD⟩ := hrel
    obtain ⟨wo, rfl⟩ : ∃ wo : World, wo = wr := ⟨_, rfl⟩
    have HR := Lib.hid hR; have HD := Lib.hid hD
    clear hR hD
    have i0 : (0 : Int) ≤ (i : Int) := by omega
    by_cases hlt : i < S.length
    · have i1 : (i : Int) < (S.length : Int) := by omega
      have hSr := HS.out.below HR.out.bel (Nat.le_refl _)
      have d0 := hSr.c0 i hlt; have d1 := hSr.c1 i hlt
      have hpo := HOK.out.p _ (List.getElem_mem hlt)
      have HST := Lib.hid (fun r (hr : r < (arcsQ m S[i].1).length) => PDone.step (m := m) hlt hr)
      have HNX := Lib.hid (fun (n : Nat) (hn : n = (arcsQ m S[i].1).length) => PDone.next (m := m) hlt hn)
      generalize S[i] = p at *
      obtain ⟨s, l⟩ := p
      simp only at d0 d1 hpo HST HNX
      obtain ⟨hq, hl0, hl1⟩ := hpo
      have hMr := HM.out.below HR.out.bel (Nat.le_refl _)
      obtain ⟨A', c', e1, hA'⟩ := arcQ_c HM.out hq
      replace e1 := cell_keep HR.out.bel (Nat.le_refl _) e1
      have HA := Lib.hid hA'
      have rdA := hA'.rdy
      have hal := HAL.out s
      have hlA := World.block_lt_of_cell? _ _ d0; have hlB := World.block_lt_of_cell? _ _ e1
      have q0 : (0 : Int) ≤ (s : Int) := by omega
      have q1 : (s : Int) < (m.states.length : Int) := by omega
      have kb := HR.out.box.cell; have kl := HR.out.box.lt
      obtain ⟨N, hN⟩ : ∃ N, (arcsQ m s).length = N := ⟨_, rfl⟩
      have HNN := Lib.hid hN
      rw [hN] at rdA hal e1
      clear hSr hMr hA' hN
      have BP := Lib.hid (Blk.new wo #[.int .i64 (s : Int), .int .i64 l] 130)
      have HR2 := Lib.hid (HR.out.keep (show Below wo.heap.size wo (wo.alloc (.cells #[.int .i64 (s : Int), .int .i64 l] 130)) from (Below.refl _ _).alloc (Nat.le_refl _) _))
      go_wp2_with fail
      clear kb kl d0 d1 hlA hlB e1 HR
      generalize wo.alloc (.cells #[.int .i64 (s : Int), .int .i64 l] 130) = w2 at *
      generalize wo.heap.size = gp at *
      go_loopw [28] (fun iv wr => ∃ (r : Nat) (L : TabL) (F : TabF), r ≤ N ∧ iv = .int .i64 r ∧ RcW w B m.states.length cb st wr L F ∧ RS L F (fun _ => False) (PDone m S i r) ∧ Blk wr gp #[.int .i64 (s : Int), .int .i64 l] 130) (fun iv _ => N - (intOf iv).toNat)
      case atStart => exact ⟨0, L, F, by omega, rfl, HR2.out, HD.out, BP.out⟩
      case round =>
        clear HR2 HD BP
        obtain ⟨r, L, F, hr, rfl, hR, hD, hP⟩ := hrel
        obtain ⟨wi, rfl⟩ : ∃ wo : World, wo = wr := ⟨_, rfl⟩
        have HR := Lib.hid hR; have HD := Lib.hid hD; have HP := Lib.hid hP
        clear hR hD hP
        have r0 : (0 : Int) ≤ (r : Int) := by omega
        by_cases hrl : r < N
        · have r1 : (r : Int) < (N : Int) := by omega
          have htl2 : r < (arcsQ m s).length := by rw [HNN.out]; exact hrl
          have hAr := HA.out.below HR.out.bel (Nat.le_refl _)
          have d0 := hAr.c0 r htl2; have d1 := hAr.c1 r htl2; have d2 := hAr.c2 r htl2; have d3 := hAr.c3 r htl2
          have hwa := HW.out.w s _ (List.getElem_mem htl2); have hta := HW.out.tgt s _ (List.getElem_mem htl2)
          have HSP := Lib.hid (HST.out r htl2)
          generalize (arcsQ m s)[r] = a at *
          have lA := World.block_lt_of_cell? _ _ d0
          obtain ⟨q, hq9⟩ : ∃ q : Nat, a.to = q := ⟨a.to.toNat, by omega⟩
          have hq8 : a.to.toNat = q := by omega
          rw [hq8] at HSP
          rw [hq9] at d3
          obtain ⟨wa0, wa1⟩ := hwa
          generalize hka : kOf a = k at *
          have hk1 : a.inn = k.1 := by rw [← hka]; rfl
          have hk2 : a.out = k.2 := by rw [← hka]; rfl
          rw [hk1] at d0; rw [hk2] at d1
          generalize a.wt = wt at *
          clear hAr htl2 hta hq9 hq8 hka hk1 hk2
          go_upto_region 9 with fail
          have bx : Below wi.heap.size wi ((wi.alloc (.cells #[.int .i64 k.1, .int .i64 k.2, .int .i64 wt, .int .i64 q] 78)).alloc (.cells #[.int .i64 k.1, .int .i64 k.2] 141)) := (by repeat' (first | exact Below.refl _ _ | assumption | refine Below.drew ?_ | refine Below.alloc ?_ (by first | omega | (simp; done) | (simp; omega)) _ | refine Below.setCell ?_ (by first | omega | (simp; done) | (simp; omega)) _))
          have BX : Hid (Blk ((wi.alloc (.cells #[.int .i64 k.1, .int .i64 k.2, .int .i64 wt, .int .i64 q] 78)).alloc (.cells #[.int .i64 k.1, .int .i64 k.2] 141)) wi.heap.size #[.int .i64 k.1, .int .i64 k.2, .int .i64 wt, .int .i64 q] 78) := Lib.hid ((Blk.new _ _ _).alloc _)
          have BK : Hid (Blk ((wi.alloc (.cells #[.int .i64 k.1, .int .i64 k.2, .int .i64 wt, .int .i64 q] 78)).alloc (.cells #[.int .i64 k.1, .int .i64 k.2] 141)) (wi.heap.size + 1) #[.int .i64 k.1, .int .i64 k.2] 141) := Lib.hid (Blk.new' (by simp))
          have HR3 := Lib.hid (HR.out.keep bx)
          have BP3 := Lib.hid (HP.out.step bx)
          generalize (wi.alloc (.cells #[.int .i64 k.1, .int .i64 k.2, .int .i64 wt, .int .i64 q] 78)).alloc (.cells #[.int .i64 k.1, .int .i64 k.2] 141) = wu at *
          generalize wi.heap.size + 1 = gk at *
          generalize wi.heap.size = gx at *
          clear d0 d1 d2 d3 bx lA HR HP
          go_cut [40] (fun s40 wx => s40 = .bool (assoc L k).isNone ∧ wx = wu)
          case first =>
            have kk := BK.out.cell; have lk := BK.out.lt
            cases hs : assoc L k with
            | none =>
              have hlk := HR3.out.lookN hs
              have hbo := map_nil_eq wu
              go_wp2_with fail
              go_meet
              case rel => exact ⟨by rw [hs]; rfl, rfl⟩
            | some b =>
              have hlk := HR3.out.lookK hs
              have hbo := map_nil_ne b wu
              go_wp2_with fail
              go_meet
              case rel => exact ⟨by rw [hs]; rfl, rfl⟩
          case rest =>
            obtain ⟨rfl, rfl⟩ := hcut
            go_upto_if 40 with fail
            go_cut [] (fun wx => ∃ (L' : TabL) (F' : TabF) (b : Nat), RcW w B m.states.length cb st wx L' F' ∧ RS L' F' (fun x => x = k) (PDone m S i r) ∧ assoc L' k = some b ∧ Blk wx gx #[.int .i64 k.1, .int .i64 k.2, .int .i64 wt, .int .i64 q] 78 ∧ Blk wx gk #[.int .i64 k.1, .int .i64 k.2] 141 ∧ Blk wx gp #[.int .i64 (s : Int), .int .i64 l] 130)
            case first =>
              cases hs : assoc L k with
              | none =>
                have hnk : k ∉ L.map (·.1) := (assoc_none_iff L k).1 hs
                have hbn : ∀ x ∈ L, x.2 ≠ wc.heap.size := fun x hx => by have := (HR3.out.inn x hx).1.lt; omega
                have HDN := Lib.hid (HD.out.new hnk hbn)
                have HRN := Lib.hid (HR3.out.newK hnk)
                have hmu := HR3.out.updK k
                have ha : Below wc.heap.size wc (wc.alloc (.map #[] 0)) := (Below.refl _ _).alloc (Nat.le_refl _) _
                have HAN : Hid (assoc (L ++ [(k, wc.heap.size)]) k = some wc.heap.size) := Lib.hid ((mem_assoc HRN.out.map.nd).1 (by simp))
                have BXN := Lib.hid ((BX.out.step ha).setMap (HR3.out.keep ha).map (mapObj pairV mapV (mput L k wc.heap.size)))
                have BKN := Lib.hid ((BK.out.step ha).setMap (HR3.out.keep ha).map (mapObj pairV mapV (mput L k wc.heap.size)))
                have BPN := Lib.hid ((BP3.out.step ha).setMap (HR3.out.keep ha).map (mapObj pairV mapV (mput L k wc.heap.size)))
                have kk := BK.out.cell; have lk := BK.out.lt
                clear ha hnk hbn hs
                go_wp2_with fail
                go_meet
                case rel => exact ⟨_, _, _, HRN.out, HDN.out, HAN.out, BXN.out, BKN.out, BPN.out⟩
              | some b =>
                have HDO := Lib.hid (HD.out.old (k := k) (List.mem_map.2 ⟨_, assoc_mem hs, rfl⟩))
                have HAO := Lib.hid hs
                clear hs
                go_wp2_with fail
                go_meet
                case rel => exact ⟨_, _, _, HR3.out, HDO.out, HAO.out, BX.out, BK.out, BP3.out⟩
            case rest =>
              obtain ⟨L', F', b, hR5, hD5, ha5, hx5, hk5, hp5⟩ := hcut
              obtain ⟨w5, rfl⟩ : ∃ wx : World, wx = wc := ⟨_, rfl⟩
              have HR5 := Lib.hid hR5; have HD5 := Lib.hid hD5; have HAS := Lib.hid ha5; have BX5 := Lib.hid hx5; have BK5 := Lib.hid hk5; have BP5 := Lib.hid hp5
              have HB := Lib.hid (assoc_mem ha5)
              have HON := Lib.hid (hR5.one (assoc_mem ha5))
              clear hR5 hD5 ha5 hx5 hk5 hp5 HR3 BX BK BP3 HD
              go_upto_region 11 with fail
              have kk := BK5.out.cell; have lk := BK5.out.lt; have kx := BX5.out.cell; have lx := BX5.out.lt
              have hlk := HR5.out.lookK HAS.out
              have hlk2 := HR5.out.drew.lookK HAS.out
              cases hv : assoc (F' b) q with
              | none =>
                have hli2 := HR5.out.drew.lookIN HB.out q hv
                have HPUT := Lib.hid ((HD5.out.put HB.out HON.out.1 HON.out.2 (q := q) (c := l + wt) (by rw [hv]; simp)).congr fun k' q' c' => (HSP.out k' q' c').symm)
                clear hv
                have HR6 := Lib.hid HR5.out.drew; have BX6 := Lib.hid (BX5.out.step (Below.refl _ _).drew); have BK6 := Lib.hid (BK5.out.step (Below.refl _ _).drew); have BP6 := Lib.hid (BP5.out.step (Below.refl _ _).drew)
                go_region
                clear kk lk kx lx hlk hlk2 hli2
                generalize w5.drew = w6 at *
                clear HR5 BX5 BK5 BP5
                go_upto_region 13 with fail
                have kk := BK6.out.cell; have lk := BK6.out.lt; have kx := BX6.out.cell; have lx := BX6.out.lt; have kp := BP6.out.cell; have lp := BP6.out.lt
                have hlk := HR6.out.drew.lookK HAS.out
                have hmu := HR6.out.drew.updI HB.out q (l + wt)
                have HR7 := Lib.hid (HR6.out.drew.putI HB.out q (l + wt))
                have BP7 := Lib.hid ((BP6.out.step (Below.refl _ _).drew).setMap (HR6.out.drew.inn _ HB.out).1 (mapObj natV intV (mput (F' b) q (l + wt))))
                go_region
                clear kk lk kx lx kp lp hlk hmu
                generalize setBlock w6.drew b (mapObj natV intV (mput (F' b) q (l + wt))) = w7 at *
                go_wp2_with fail
                go_roundw
                case rel => exact ⟨r + 1, L', _, by omega, by go_num, HR7.out, HPUT.out, BP7.out⟩
                case measure => simp [intOf]; omega
              | some v =>
                have hli2 := HR5.out.drew.lookI HB.out q hv
                by_cases hlv : l + wt < v
                · have HPUT := Lib.hid ((HD5.out.put HB.out HON.out.1 HON.out.2 (q := q) (c := l + wt) (by rw [hv]; intro w e; injection e with e; omega)).congr fun k' q' c' => (HSP.out k' q' c').symm)
                  clear hv
                  have HR6 := Lib.hid HR5.out.drew; have BX6 := Lib.hid (BX5.out.step (Below.refl _ _).drew); have BK6 := Lib.hid (BK5.out.step (Below.refl _ _).drew); have BP6 := Lib.hid (BP5.out.step (Below.refl _ _).drew)
                  go_region
                  clear kk lk kx lx hlk hlk2 hli2
                  generalize w5.drew = w6 at *
                  clear HR5 BX5 BK5 BP5
                  have kx := BX6.out.cell; have lx := BX6.out.lt; have kp := BP6.out.cell; have lp := BP6.out.lt
                  go_upto_region 13 with fail
                  clear kx lx kp lp
                  have kk := BK6.out.cell; have lk := BK6.out.lt; have kx := BX6.out.cell; have lx := BX6.out.lt; have kp := BP6.out.cell; have lp := BP6.out.lt
                  have hlk := HR6.out.drew.lookK HAS.out
                  have hmu := HR6.out.drew.updI HB.out q (l + wt)
                  have HR7 := Lib.hid (HR6.out.drew.putI HB.out q (l + wt))
                  have BP7 := Lib.hid ((BP6.out.step (Below.refl _ _).drew).setMap (HR6.out.drew.inn _ HB.out).1 (mapObj natV intV (mput (F' b) q (l + wt))))
                  go_region
                  clear kk lk kx lx kp lp hlk hmu
                  generalize setBlock w6.drew b (mapObj natV intV (mput (F' b) q (l + wt))) = w7 at *
                  go_wp2_with fail
                  go_roundw
                  case rel => exact ⟨r + 1, L', _, by omega, by go_num, HR7.out, HPUT.out, BP7.out⟩
                  case measure => simp [intOf]; omega
                · have HKEEP := Lib.hid ((HD5.out.keep HB.out HON.out.1 hv hlv).congr fun k' q' c' => (HSP.out k' q' c').symm)
                  clear hv
                  have HR6 := Lib.hid HR5.out.drew; have BX6 := Lib.hid (BX5.out.step (Below.refl _ _).drew); have BK6 := Lib.hid (BK5.out.step (Below.refl _ _).drew); have BP6 := Lib.hid (BP5.out.step (Below.refl _ _).drew)
                  go_region
                  clear kk lk kx lx hlk hlk2 hli2
                  generalize w5.drew = w6 at *
                  clear HR5 BX5 BK5 BP5
                  have kx := BX6.out.cell; have lx := BX6.out.lt; have kp := BP6.out.cell; have lp := BP6.out.lt
                  go_wp2_with fail
                  go_roundw
                  case rel => exact ⟨r + 1, L', F', by omega, by go_num, HR6.out, HKEEP.out, BP6.out⟩
                  case measure => simp [intOf]; omega
        · obtain rfl : r = N := by omega
          have HDN := Lib.hid (HD.out.congr fun k q c => HNX.out r HNN.out.symm k q c)
          go_wp2_with fail
          go_roundw
          case rel => exact ⟨i + 1, L, F, by omega, by go_num, HR.out, HDN.out⟩
          case measure => simp [intOf]; omega
    · obtain rfl : i = S.length := by omega
      have HDA := Lib.hid (HD.out.congr fun k q c => PDone.all m S k q c)
      go_wp2_with fail
      go_ret
      exact ⟨rfl, L, F, HR.out, HDA.out⟩
end Go.Proofs.YtkmnacchiagipaaDoor
