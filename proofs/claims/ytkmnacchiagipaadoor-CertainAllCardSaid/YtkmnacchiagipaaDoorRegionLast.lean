/- A region that draws its order and whose last operation waits for all others: it is the region without it, and then the last one. -/
/- A region that draws its order and whose last operation waits for all others, over some steps. -/
import Derived.WalkKit
import Derived.OrdersHeld
import Derived.Deep.RegionHeld3
namespace Go.Proofs.YtkmnacchiagipaaDoor

/-- what is asked behind the others: the last one -/
def LastQ (P : Program) (o : Oper) (Q : Exit → Act → World → Prop) : Exit → Act → World → Prop
  | .normal, a, w => o.wp P a w (Q .normal) Q
  | e, a, w => Q e a w

theorem upon_last {P : Program} {o oL : Oper} {Q : Exit → Act → World → Prop} {a : Act} {K : Act → World → Prop} (r : Result Next) (h : o.upon P a K (LastQ P oL Q) r) : o.upon P a K Q r := by
  cases r with
  | ok n w => cases n <;> exact h
  | halt x w => cases x <;> exact h

/-- the last operation waits for operation j -/
def waits1 (oL : Oper) (j : Nat) : Bool := oL.after.toList.any fun e => Region.binds .any e && e.on == j
/-- the closed facts on a region whose last operation waits for all others; no operation is guarded -/
def lastWaits (ops : Array Oper) (oL : Oper) : Bool :=
  (ops.toList.all fun o => o.guard.isNone) && oL.guard.isNone &&
  ((List.range ops.size).all fun i => (((ops[i]?).map fun o => o.after.toList.all fun e => e.on < i)).getD false) &&
  ((List.range ops.size).all fun j => waits1 oL j || (List.range ops.size).any fun i => waits1 oL i && (((ops[i]?).map fun o => waits1 o j).getD false)) &&
  (oL.after.toList.all fun e => e.on < ops.size)

section
variable {P : Program} {ops : Array Oper} {oL : Oper} {Q : Exit → Act → World → Prop}
theorem waits_guard (h : lastWaits ops oL = true) {i : Nat} {o : Oper} (ho : ops[i]? = some o) : o.guard = none := by
  simp only [lastWaits, Bool.and_eq_true, List.all_eq_true] at h
  have := h.1.1.1.1 o (Array.mem_toList_iff.2 (Array.mem_of_getElem? ho))
  simpa using this
theorem waits_lt (h : lastWaits ops oL = true) {i : Nat} {o : Oper} (ho : ops[i]? = some o) : ∀ e ∈ o.after, e.on < i := by
  simp only [lastWaits, Bool.and_eq_true, List.all_eq_true] at h
  have hi : i < ops.size := (Array.getElem?_eq_some_iff.1 ho).1
  have := h.1.1.2 i (by simpa using hi)
  rw [ho] at this
  simp only [Option.map_some, Option.getD_some, List.all_eq_true, decide_eq_true_eq] at this
  exact fun e he => this e (Array.mem_toList_iff.2 he)
theorem waits1_ex {o : Oper} {j : Nat} (h : waits1 o j = true) : ∃ e ∈ o.after, Region.binds .any e = true ∧ e.on = j := by
  unfold waits1 at h
  rw [List.any_eq_true] at h
  obtain ⟨e, he, h2⟩ := h
  simp only [Bool.and_eq_true, beq_iff_eq] at h2
  exact ⟨e, Array.mem_toList_iff.1 he, h2⟩
theorem waits_all (h : lastWaits ops oL = true) {j : Nat} (hj : j < ops.size) : waits1 oL j = true ∨ ∃ i o, i < ops.size ∧ waits1 oL i = true ∧ ops[i]? = some o ∧ waits1 o j = true := by
  simp only [lastWaits, Bool.and_eq_true, List.all_eq_true] at h
  have := h.1.2 j (by simpa using hj)
  rw [Bool.or_eq_true, List.any_eq_true] at this
  refine this.imp id ?_
  rintro ⟨i, hi, h2⟩
  rw [Bool.and_eq_true] at h2
  have hi' : i < ops.size := by simpa using hi
  have ho : ops[i]? = some ops[i] := Array.getElem?_eq_getElem hi'
  rw [ho] at h2
  exact ⟨i, ops[i], hi', h2.1, ho, by simpa using h2.2⟩
/-- what has been done has waited for what it waits for -/
def Closed (ops : Array Oper) (l : Array Bool) : Prop := ∀ i o, ops[i]? = some o → l.getD i true = true → ∀ e ∈ o.after, Region.binds .any e = true → l.getD e.on true = true
theorem waits_last (h : lastWaits ops oL = true) : oL.guard = none ∧ ∀ e ∈ oL.after, e.on < ops.size := by
  simp only [lastWaits, Bool.and_eq_true, List.all_eq_true] at h
  exact ⟨by simpa using h.1.1.1.2, fun e he => by simpa using h.2 e (Array.mem_toList_iff.2 he)⟩

theorem getD_push {l : Array Bool} {j : Nat} (h : j < l.size) (d : Bool) : (l.push false).getD j d = l.getD j d := by
  simp [Array.getElem?_push, h, Nat.ne_of_lt h]
theorem ready_push (h : lastWaits ops oL = true) {l : Array Bool} (hl : l.size = ops.size) {j : Nat} (hj : j < ops.size) : j ∈ Region.ready .any (ops.push oL) (l.push false) ↔ j ∈ Region.ready .any ops l := by
  rw [mem_ready, mem_ready, getD_push (by omega)]
  have e : (ops.push oL)[j]? = ops[j]? := by simp [Array.getElem?_push, Nat.ne_of_lt hj]
  rw [e]
  refine and_congr_right fun _ => exists_congr fun o => and_congr_right fun ho => forall_congr' fun e => forall_congr' fun he => ?_
  rw [getD_push (by have := waits_lt h ho e he; omega)]
theorem ready_nil_all (h : lastWaits ops oL = true) {l : Array Bool} (hr : Region.ready .any ops l = []) : ∀ j, j < ops.size → l.getD j true = true := by
  intro j
  induction j using Nat.strongRecOn with
  | _ j ih =>
    intro hj
    cases hb : l.getD j true with
    | true => rfl
    | false =>
      exfalso
      have ho : ops[j]? = some ops[j] := Array.getElem?_eq_getElem hj
      have : j ∈ Region.ready .any ops l := mem_ready.2 ⟨hb, _, ho, fun e he _ => by
        have hlt := waits_lt h ho e he
        have := ih e.on hlt (by omega)
        rcases Nat.lt_or_ge e.on l.size with h' | h'
        · simpa [h'] using this
        · rcases Nat.lt_or_ge j l.size with h2 | h2
          · omega
          · simp [Array.getElem?_eq_none h2] at hb⟩
      rw [hr] at this; cases this
theorem last_ready (h : lastWaits ops oL = true) {l : Array Bool} (hl : l.size = ops.size) (hc : Closed ops l) : ops.size ∈ Region.ready .any (ops.push oL) (l.push false) ↔ ∀ j, j < ops.size → l.getD j true = true := by
  rw [mem_ready]
  constructor
  · rintro ⟨_, o, ho, hall⟩ j hj
    have : o = oL := by simpa using ho.symm
    subst this
    have dir : ∀ j, j < ops.size → waits1 o j = true → l.getD j true = true := by
      intro j hj hw
      obtain ⟨e, he, hb, rfl⟩ := waits1_ex hw
      have := hall e he hb
      rw [getD_push (by omega)] at this
      simpa [show e.on < l.size by omega] using this
    rcases waits_all h hj with hw | ⟨i, o', hi, hw, ho', hw2⟩
    · exact dir j hj hw
    · obtain ⟨e, he, hb, rfl⟩ := waits1_ex hw2
      exact hc i o' ho' (dir i hi hw) e he hb
  · intro hall
    refine ⟨by simp [← hl], oL, by simp, fun e he _ => ?_⟩
    have hlt := (waits_last h).2 e he
    rw [getD_push (by omega)]
    have := hall e.on hlt
    simpa [show e.on < l.size by omega] using this

theorem wpOp_last (h : lastWaits ops oL = true) {K : Act → World → Prop} {a : Act} {w : World} (hk : oL.wp P a w K Q) : wpOp P (ops.push oL) Q ops.size K a w := by
  unfold wpOp
  simp only [Array.getElem?_push_size]
  rw [if_pos (by simp [Region.wanted, (waits_last h).1])]
  exact .inl hk
theorem wpOp_lift (h : lastWaits ops oL = true) {K K' : Act → World → Prop} (hK : ∀ a w, K a w → K' a w) {i : Nat} (hi : i < ops.size) {a : Act} {w : World} (hw : wpOp P ops (LastQ P oL Q) i K a w) : wpOp P (ops.push oL) Q i K' a w := by
  have hw := wpOp_mono hK hw
  unfold wpOp at *
  have e : (ops.push oL)[i]? = ops[i]? := by simp [Array.getElem?_push, Nat.ne_of_lt hi]
  rw [e]
  have ho : ops[i]? = some ops[i] := Array.getElem?_eq_getElem hi
  rw [ho] at hw ⊢
  have hg := waits_guard h ho
  simp only [Region.wanted, hg, if_true] at hw ⊢
  rcases hw with hw | hw
  · exact .inl (upon_last _ hw)
  · exact .inr hw

theorem wpAny_push (h : lastWaits ops oL = true) : ∀ (fuel : Nat) (l : Array Bool) (a : Act) (w : World), l.size = ops.size → Closed ops l → wpAny P .any ops (LastQ P oL Q) fuel l a w → wpAny P .any (ops.push oL) Q (fuel + 1) (l.push false) a w := by
  have fin : ∀ (fuel : Nat) (l : Array Bool) (a : Act) (w : World), l.size = ops.size → Closed ops l → Region.ready .any ops l = [] → oL.wp P a w (Q .normal) Q → wpAny P .any (ops.push oL) Q (fuel + 1) (l.push false) a w := by
    intro fuel l a w hl hc hr hw
    have hall := ready_nil_all h hr
    have hn := (last_ready h hl hc).2 hall
    have hset : (l.push false).setIfInBounds ops.size true = l.push true := by
      rw [← hl]
      apply Array.ext_getElem?
      intro k
      simp only [Array.getElem?_setIfInBounds, Array.getElem?_push, Array.size_push]
      by_cases h1 : l.size = k
      · subst h1; simp
      · have h2 : ¬ k = l.size := fun e => h1 e.symm
        simp [h1, h2]
    have hno : Region.ready .any (ops.push oL) (l.push true) = [] := by
      rw [List.eq_nil_iff_forall_not_mem]
      intro j hj
      have h1 := (mem_ready.1 hj).1
      rcases Nat.lt_trichotomy j ops.size with h2 | h2 | h2
      · have : (l.push true).getD j true = l.getD j true := by simp [Array.getElem?_push, show j ≠ l.size by omega, show j < l.size by omega]
        rw [this, hall j h2] at h1; cases h1
      · subst h2; rw [← hl] at h1; simp at h1
      · simp [Array.getElem?_eq_none (show (l.push true).size ≤ j by simp; omega)] at h1
    refine ⟨fun h0 => (by rw [h0] at hn; cases hn), fun i hi => ?_⟩
    have hin : i = ops.size := by
      rcases Nat.lt_trichotomy i ops.size with h2 | h2 | h2
      · have := (ready_push h hl h2).1 hi; rw [hr] at this; cases this
      · exact h2
      · obtain ⟨_, o, ho, _⟩ := mem_ready.1 hi
        rw [Array.getElem?_eq_none (by simp; omega)] at ho; cases ho
    subst hin
    rw [hset]
    refine wpOp_mono (fun a' w' hq => ?_) (wpOp_last h hw)
    cases fuel with
    | zero => exact ⟨hno, hq⟩
    | succ f => exact ⟨fun _ => hq, fun i hi => by rw [hno] at hi; cases hi⟩
  intro fuel
  induction fuel with
  | zero => intro l a w hl hc H; exact fin 0 l a w hl hc H.1 H.2
  | succ fuel ih =>
    intro l a w hl hc H
    by_cases hr : Region.ready .any ops l = []
    · exact fin (fuel + 1) l a w hl hc hr (H.1 hr)
    · obtain ⟨j, hj⟩ := List.exists_mem_of_ne_nil _ hr
      have hjl : j < ops.size := by
        obtain ⟨_, o, ho, _⟩ := mem_ready.1 hj
        exact (Array.getElem?_eq_some_iff.1 ho).1
      refine ⟨fun h0 => (by have := (ready_push h hl hjl).2 hj; rw [h0] at this; cases this), fun i hi => ?_⟩
      have hil : i < ops.size := by
        rcases Nat.lt_trichotomy i ops.size with h2 | h2 | h2
        · exact h2
        · subst h2
          have := (last_ready h hl hc).1 hi j hjl
          have h3 := (mem_ready.1 hj).1
          rw [this] at h3; cases h3
        · obtain ⟨_, o, ho, _⟩ := mem_ready.1 hi
          rw [Array.getElem?_eq_none (by simp; omega)] at ho; cases ho
      have e : (l.push false).setIfInBounds i true = (l.setIfInBounds i true).push false := by
        apply Array.ext_getElem?
        intro k
        simp only [Array.getElem?_setIfInBounds, Array.getElem?_push, Array.size_push, Array.size_setIfInBounds]
        by_cases h1 : i = k
        · subst h1; simp [show i ≠ l.size by omega, show i < l.size by omega]; omega
        · simp [h1]
      rw [e]
      have hc2 : Closed ops (l.setIfInBounds i true) := by
        have mono : ∀ k, l.getD k true = true → (l.setIfInBounds i true).getD k true = true := by
          intro k hk
          simp only [Array.getD_eq_getD_getElem?, Array.getElem?_setIfInBounds] at hk ⊢
          split
          · split <;> rfl
          · exact hk
        intro k o ho hd ed he hb
        by_cases h1 : k = i
        · subst h1
          obtain ⟨_, o', ho', hall⟩ := mem_ready.1 ((ready_push h hl hil).1 hi)
          rw [ho] at ho'; injection ho' with ho'; subst ho'
          have := hall ed he hb
          have hlt := waits_lt h ho ed he
          exact mono _ (by simpa [show ed.on < l.size by omega] using this)
        · refine mono _ (hc k o ho ?_ ed he hb)
          simp only [Array.getD_eq_getD_getElem?, Array.getElem?_setIfInBounds, if_neg (fun e' => h1 (Eq.symm e'))] at hd ⊢
          exact hd
      exact wpOp_lift h (fun a' w' => ih _ a' w' (by simpa using hl) hc2) hil (H.2 i ((ready_push h hl hil).1 hi))

/-- the region, held at S till the last operation -/
theorem wp_region_last {id : Nat} {a : Act} {w : World} (S : World → Prop) (hm : P.follows .mixedOrders = true) (h : lastWaits ops oL = true)
    (hw : wpAnyH P .any ops (LastQ P oL Q) S ops.size (Array.replicate ops.size false) a { w with drawn := w.drawn + 1 }) : (Code.region id (ops.push oL) true).wp P Q a w := by
  refine wp_region_any hm ?_
  have := wpAny_push (Q := Q) h ops.size (Array.replicate ops.size false) a _ (by simp) (fun i o ho hd => by
    have : i < ops.size := (Array.getElem?_eq_some_iff.1 ho).1
    simp [this] at hd) (wpAny_of_held _ _ _ _ hw)
  have e : Array.replicate (ops.push oL).size false = (Array.replicate ops.size false).push false := by
    apply Array.ext_getElem?
    intro k
    simp only [Array.getElem?_push, Array.getElem?_replicate, Array.size_push, Array.size_replicate]
    by_cases h1 : k = ops.size
    · subst h1; simp
    · simp only [h1, if_false]
      by_cases h2 : k < ops.size
      · simp [h2, show k < ops.size + 1 by omega]
      · simp [h2, show ¬ k < ops.size + 1 by omega]
  rw [e, Array.size_push]
  exact this
theorem wp_region_last_drew {all : Array Oper} {id : Nat} {a : Act} {w : World} (S : World → Prop) (hm : P.follows .mixedOrders = true) (ho : all.back? = some oL) (hp : all.pop = ops) (h : lastWaits ops oL = true)
    (hS : S w.drew) (hw : S w.drew → wpAnyH P .any ops (LastQ P oL Q) S ops.size (Array.replicate ops.size false) a w.drew) : (Code.region id all true).wp P Q a w := by
  have e : all = ops.push oL := by
    rw [← hp]
    apply Array.ext_getElem?
    intro i
    have hb : all[all.size - 1]? = some oL := by rw [← ho]; simp [Array.back?]
    simp only [Array.getElem?_push, Array.getElem?_pop, Array.size_pop]
    rcases Nat.lt_trichotomy i (all.size - 1) with h1 | h1 | h1
    · simp [h1, Nat.ne_of_lt h1]
    · subst h1; simp [hb]
    · have h2 : ¬ i < all.size - 1 := by omega
      have h3 : all.size ≤ i := by omega
      simp [h2, Nat.ne_of_gt h1, Array.getElem?_eq_none h3]
  rw [e]
  exact wp_region_last S hm h (hw hS)
theorem lastQ_panic (c : List PanicEntry) (a a' : Act) (w w' : World) (h : LastQ P oL (NoPanic Q) (.panic c) a w) : LastQ P oL (NoPanic Q) (.panic c) a' w' := h
end
end Go.Proofs.YtkmnacchiagipaaDoor

namespace Go.Proofs.YtkmnacchiagipaaDoor

/-- the last operation waits for operation j, over at most n others -/
def waitsN (ops : Array Oper) (oL : Oper) : Nat → Nat → Bool
  | 0, j => waits1 oL j
  | n + 1, j => waitsN ops oL n j || (List.range ops.size).any fun i => waitsN ops oL n i && (((ops[i]?).map fun o => waits1 o j).getD false)
/-- the closed facts on a region whose last operation waits for all others; no operation is guarded -/
def lastWaits3 (ops : Array Oper) (oL : Oper) : Bool :=
  (ops.toList.all fun o => o.guard.isNone) && oL.guard.isNone &&
  ((List.range ops.size).all fun i => (((ops[i]?).map fun o => o.after.toList.all fun e => e.on < i)).getD false) &&
  ((List.range ops.size).all fun j => waitsN ops oL 4 j) &&
  (oL.after.toList.all fun e => e.on < ops.size)

section
variable {P : Program} {ops : Array Oper} {oL : Oper} {Q : Exit → Act → World → Prop}
theorem waits_guard3 (h : lastWaits3 ops oL = true) {i : Nat} {o : Oper} (ho : ops[i]? = some o) : o.guard = none := by
  simp only [lastWaits3, Bool.and_eq_true, List.all_eq_true] at h
  have := h.1.1.1.1 o (Array.mem_toList_iff.2 (Array.mem_of_getElem? ho))
  simpa using this
theorem waits_lt3 (h : lastWaits3 ops oL = true) {i : Nat} {o : Oper} (ho : ops[i]? = some o) : ∀ e ∈ o.after, e.on < i := by
  simp only [lastWaits3, Bool.and_eq_true, List.all_eq_true] at h
  have hi : i < ops.size := (Array.getElem?_eq_some_iff.1 ho).1
  have := h.1.1.2 i (by simpa using hi)
  rw [ho] at this
  simp only [Option.map_some, Option.getD_some, List.all_eq_true, decide_eq_true_eq] at this
  exact fun e he => this e (Array.mem_toList_iff.2 he)
theorem waits_all3 (h : lastWaits3 ops oL = true) {j : Nat} (hj : j < ops.size) : waitsN ops oL 4 j = true := by
  simp only [lastWaits3, Bool.and_eq_true, List.all_eq_true] at h
  exact h.1.2 j (by simpa using hj)
theorem waits_last3 (h : lastWaits3 ops oL = true) : oL.guard = none ∧ ∀ e ∈ oL.after, e.on < ops.size := by
  simp only [lastWaits3, Bool.and_eq_true, List.all_eq_true] at h
  exact ⟨by simpa using h.1.1.1.2, fun e he => by simpa using h.2 e (Array.mem_toList_iff.2 he)⟩

theorem ready_push3 (h : lastWaits3 ops oL = true) {l : Array Bool} (hl : l.size = ops.size) {j : Nat} (hj : j < ops.size) : j ∈ Region.ready .any (ops.push oL) (l.push false) ↔ j ∈ Region.ready .any ops l := by
  rw [mem_ready, mem_ready, getD_push (by omega)]
  have e : (ops.push oL)[j]? = ops[j]? := by simp [Array.getElem?_push, Nat.ne_of_lt hj]
  rw [e]
  refine and_congr_right fun _ => exists_congr fun o => and_congr_right fun ho => forall_congr' fun e => forall_congr' fun he => ?_
  rw [getD_push (by have := waits_lt3 h ho e he; omega)]
theorem ready_nil_all3 (h : lastWaits3 ops oL = true) {l : Array Bool} (hr : Region.ready .any ops l = []) : ∀ j, j < ops.size → l.getD j true = true := by
  intro j
  induction j using Nat.strongRecOn with
  | _ j ih =>
    intro hj
    cases hb : l.getD j true with
    | true => rfl
    | false =>
      exfalso
      have ho : ops[j]? = some ops[j] := Array.getElem?_eq_getElem hj
      have : j ∈ Region.ready .any ops l := mem_ready.2 ⟨hb, _, ho, fun e he _ => by
        have hlt := waits_lt3 h ho e he
        have := ih e.on hlt (by omega)
        rcases Nat.lt_or_ge e.on l.size with h' | h'
        · simpa [h'] using this
        · rcases Nat.lt_or_ge j l.size with h2 | h2
          · omega
          · simp [Array.getElem?_eq_none h2] at hb⟩
      rw [hr] at this; cases this
theorem last_ready3 (h : lastWaits3 ops oL = true) {l : Array Bool} (hl : l.size = ops.size) (hc : Closed ops l) : ops.size ∈ Region.ready .any (ops.push oL) (l.push false) ↔ ∀ j, j < ops.size → l.getD j true = true := by
  rw [mem_ready]
  constructor
  · rintro ⟨_, o, ho, hall⟩ j hj
    have : o = oL := by simpa using ho.symm
    subst this
    have dir : ∀ j, j < ops.size → waits1 o j = true → l.getD j true = true := by
      intro j hj hw
      obtain ⟨e, he, hb, rfl⟩ := waits1_ex hw
      have := hall e he hb
      rw [getD_push (by omega)] at this
      simpa [show e.on < l.size by omega] using this
    have all : ∀ n j, j < ops.size → waitsN ops o n j = true → l.getD j true = true := by
      intro n
      induction n with
      | zero => exact dir
      | succ n ih =>
        intro j hj hw
        unfold waitsN at hw
        rw [Bool.or_eq_true, List.any_eq_true] at hw
        rcases hw with hw | ⟨i, hi, h2⟩
        · exact ih j hj hw
        · rw [Bool.and_eq_true] at h2
          have hi' : i < ops.size := by simpa using hi
          have ho' : ops[i]? = some ops[i] := Array.getElem?_eq_getElem hi'
          have h3 := h2.2
          rw [ho'] at h3
          obtain ⟨e, he, hb, rfl⟩ := waits1_ex (by simpa using h3)
          exact hc i ops[i] ho' (ih i hi' h2.1) e he hb
    exact all 4 j hj (waits_all3 h hj)
  · intro hall
    refine ⟨by simp [← hl], oL, by simp, fun e he _ => ?_⟩
    have hlt := (waits_last3 h).2 e he
    rw [getD_push (by omega)]
    have := hall e.on hlt
    simpa [show e.on < l.size by omega] using this

theorem wpOp_last3 (h : lastWaits3 ops oL = true) {K : Act → World → Prop} {a : Act} {w : World} (hk : oL.wp P a w K Q) : wpOp P (ops.push oL) Q ops.size K a w := by
  unfold wpOp
  simp only [Array.getElem?_push_size]
  rw [if_pos (by simp [Region.wanted, (waits_last3 h).1])]
  exact .inl hk
theorem wpOp_lift3 (h : lastWaits3 ops oL = true) {K K' : Act → World → Prop} (hK : ∀ a w, K a w → K' a w) {i : Nat} (hi : i < ops.size) {a : Act} {w : World} (hw : wpOp P ops (LastQ P oL Q) i K a w) : wpOp P (ops.push oL) Q i K' a w := by
  have hw := wpOp_mono hK hw
  unfold wpOp at *
  have e : (ops.push oL)[i]? = ops[i]? := by simp [Array.getElem?_push, Nat.ne_of_lt hi]
  rw [e]
  have ho : ops[i]? = some ops[i] := Array.getElem?_eq_getElem hi
  rw [ho] at hw ⊢
  have hg := waits_guard3 h ho
  simp only [Region.wanted, hg, if_true] at hw ⊢
  rcases hw with hw | hw
  · exact .inl (upon_last _ hw)
  · exact .inr hw

theorem wpAny_push3 (h : lastWaits3 ops oL = true) : ∀ (fuel : Nat) (l : Array Bool) (a : Act) (w : World), l.size = ops.size → Closed ops l → wpAny P .any ops (LastQ P oL Q) fuel l a w → wpAny P .any (ops.push oL) Q (fuel + 1) (l.push false) a w := by
  have fin : ∀ (fuel : Nat) (l : Array Bool) (a : Act) (w : World), l.size = ops.size → Closed ops l → Region.ready .any ops l = [] → oL.wp P a w (Q .normal) Q → wpAny P .any (ops.push oL) Q (fuel + 1) (l.push false) a w := by
    intro fuel l a w hl hc hr hw
    have hall := ready_nil_all3 h hr
    have hn := (last_ready3 h hl hc).2 hall
    have hset : (l.push false).setIfInBounds ops.size true = l.push true := by
      rw [← hl]
      apply Array.ext_getElem?
      intro k
      simp only [Array.getElem?_setIfInBounds, Array.getElem?_push, Array.size_push]
      by_cases h1 : l.size = k
      · subst h1; simp
      · have h2 : ¬ k = l.size := fun e => h1 e.symm
        simp [h1, h2]
    have hno : Region.ready .any (ops.push oL) (l.push true) = [] := by
      rw [List.eq_nil_iff_forall_not_mem]
      intro j hj
      have h1 := (mem_ready.1 hj).1
      rcases Nat.lt_trichotomy j ops.size with h2 | h2 | h2
      · have : (l.push true).getD j true = l.getD j true := by simp [Array.getElem?_push, show j ≠ l.size by omega, show j < l.size by omega]
        rw [this, hall j h2] at h1; cases h1
      · subst h2; rw [← hl] at h1; simp at h1
      · simp [Array.getElem?_eq_none (show (l.push true).size ≤ j by simp; omega)] at h1
    refine ⟨fun h0 => (by rw [h0] at hn; cases hn), fun i hi => ?_⟩
    have hin : i = ops.size := by
      rcases Nat.lt_trichotomy i ops.size with h2 | h2 | h2
      · have := (ready_push3 h hl h2).1 hi; rw [hr] at this; cases this
      · exact h2
      · obtain ⟨_, o, ho, _⟩ := mem_ready.1 hi
        rw [Array.getElem?_eq_none (by simp; omega)] at ho; cases ho
    subst hin
    rw [hset]
    refine wpOp_mono (fun a' w' hq => ?_) (wpOp_last3 h hw)
    cases fuel with
    | zero => exact ⟨hno, hq⟩
    | succ f => exact ⟨fun _ => hq, fun i hi => by rw [hno] at hi; cases hi⟩
  intro fuel
  induction fuel with
  | zero => intro l a w hl hc H; exact fin 0 l a w hl hc H.1 H.2
  | succ fuel ih =>
    intro l a w hl hc H
    by_cases hr : Region.ready .any ops l = []
    · exact fin (fuel + 1) l a w hl hc hr (H.1 hr)
    · obtain ⟨j, hj⟩ := List.exists_mem_of_ne_nil _ hr
      have hjl : j < ops.size := by
        obtain ⟨_, o, ho, _⟩ := mem_ready.1 hj
        exact (Array.getElem?_eq_some_iff.1 ho).1
      refine ⟨fun h0 => (by have := (ready_push3 h hl hjl).2 hj; rw [h0] at this; cases this), fun i hi => ?_⟩
      have hil : i < ops.size := by
        rcases Nat.lt_trichotomy i ops.size with h2 | h2 | h2
        · exact h2
        · subst h2
          have := (last_ready3 h hl hc).1 hi j hjl
          have h3 := (mem_ready.1 hj).1
          rw [this] at h3; cases h3
        · obtain ⟨_, o, ho, _⟩ := mem_ready.1 hi
          rw [Array.getElem?_eq_none (by simp; omega)] at ho; cases ho
      have e : (l.push false).setIfInBounds i true = (l.setIfInBounds i true).push false := by
        apply Array.ext_getElem?
        intro k
        simp only [Array.getElem?_setIfInBounds, Array.getElem?_push, Array.size_push, Array.size_setIfInBounds]
        by_cases h1 : i = k
        · subst h1; simp [show i ≠ l.size by omega, show i < l.size by omega]; omega
        · simp [h1]
      rw [e]
      have hc2 : Closed ops (l.setIfInBounds i true) := by
        have mono : ∀ k, l.getD k true = true → (l.setIfInBounds i true).getD k true = true := by
          intro k hk
          simp only [Array.getD_eq_getD_getElem?, Array.getElem?_setIfInBounds] at hk ⊢
          split
          · split <;> rfl
          · exact hk
        intro k o ho hd ed he hb
        by_cases h1 : k = i
        · subst h1
          obtain ⟨_, o', ho', hall⟩ := mem_ready.1 ((ready_push3 h hl hil).1 hi)
          rw [ho] at ho'; injection ho' with ho'; subst ho'
          have := hall ed he hb
          have hlt := waits_lt3 h ho ed he
          exact mono _ (by simpa [show ed.on < l.size by omega] using this)
        · refine mono _ (hc k o ho ?_ ed he hb)
          simp only [Array.getD_eq_getD_getElem?, Array.getElem?_setIfInBounds, if_neg (fun e' => h1 (Eq.symm e'))] at hd ⊢
          exact hd
      exact wpOp_lift3 h (fun a' w' => ih _ a' w' (by simpa using hl) hc2) hil (H.2 i ((ready_push3 h hl hil).1 hi))

/-- the region, held at S till the last operation -/
theorem any_last3 {a : Act} {w : World} (S : World → Prop) (h : lastWaits3 ops oL = true)
    (hw : wpAnyH P .any ops (LastQ P oL Q) S ops.size (Array.replicate ops.size false) a w) : wpAny P .any (ops.push oL) Q (ops.push oL).size (Array.replicate (ops.push oL).size false) a w := by
  have := wpAny_push3 (Q := Q) h ops.size (Array.replicate ops.size false) a _ (by simp) (fun i o ho hd => by
    have : i < ops.size := (Array.getElem?_eq_some_iff.1 ho).1
    simp [this] at hd) (wpAny_of_held _ _ _ _ hw)
  have e : Array.replicate (ops.push oL).size false = (Array.replicate ops.size false).push false := by
    apply Array.ext_getElem?
    intro k
    simp only [Array.getElem?_push, Array.getElem?_replicate, Array.size_push, Array.size_replicate]
    by_cases h1 : k = ops.size
    · subst h1; simp
    · simp only [h1, if_false]
      by_cases h2 : k < ops.size
      · simp [h2, show k < ops.size + 1 by omega]
      · simp [h2, show ¬ k < ops.size + 1 by omega]
  rw [e, Array.size_push]
  exact this
theorem any_last_drew3 {all : Array Oper} {a : Act} {w : World} (S : World → Prop) (ho : all.back? = some oL) (hp : all.pop = ops) (h : lastWaits3 ops oL = true)
    (hS : S w) (hw : S w → wpAnyH P .any ops (LastQ P oL Q) S ops.size (Array.replicate ops.size false) a w) : wpAny P .any all Q all.size (Array.replicate all.size false) a w := by
  have e : all = ops.push oL := by
    rw [← hp]
    apply Array.ext_getElem?
    intro i
    have hb : all[all.size - 1]? = some oL := by rw [← ho]; simp [Array.back?]
    simp only [Array.getElem?_push, Array.getElem?_pop, Array.size_pop]
    rcases Nat.lt_trichotomy i (all.size - 1) with h1 | h1 | h1
    · simp [h1, Nat.ne_of_lt h1]
    · subst h1; simp [hb]
    · have h2 : ¬ i < all.size - 1 := by omega
      have h3 : all.size ≤ i := by omega
      simp [h2, Nat.ne_of_gt h1, Array.getElem?_eq_none h3]
  rw [e]
  exact any_last3 S h (hw hS)
theorem wp_region_last_drew3 {all : Array Oper} {id : Nat} {a : Act} {w : World} (S : World → Prop) (hm : P.follows .mixedOrders = true) (ho : all.back? = some oL) (hp : all.pop = ops) (h : lastWaits3 ops oL = true)
    (hS : S w.drew) (hw : S w.drew → wpAnyH P .any ops (LastQ P oL Q) S ops.size (Array.replicate ops.size false) a w.drew) : (Code.region id all true).wp P Q a w :=
  wp_region_any hm (any_last_drew3 S ho hp h hS hw)
end
end Go.Proofs.YtkmnacchiagipaaDoor
