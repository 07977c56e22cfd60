/- Machines without empty arcs (plain): empties.Remove. -/
import Derived.Test.YtlfjccgbngnjhaaNearPlain
import Derived.Test.YtlfjccgbngnjhaaArrPlain
import Derived.Test.YtlfjccgbngnjhaaMaps
namespace Go.Proofs.Ytlfjccgbngnjhaa
open Go.RowKit

/-- what ending costs from q, along empty arcs -/
def FinR (m : MachL) (q : Nat) (f : Int) : Prop := (f = INF ∧ ∀ p c, EP m q p c → finQ m p = INF) ∨ (f ≠ INF ∧ (∃ p c, EP m q p c ∧ finQ m p ≠ INF ∧ f = c + finQ m p) ∧ ∀ p c, EP m q p c → finQ m p ≠ INF → f ≤ c + finQ m p)
/-- arcs that have empty ones ahead of them -/
def Far1 (m : MachL) (q : Nat) (a : ArcL) : Prop := ∃ p c b, EP m q p c ∧ b ∈ arcsQ m p ∧ emptyA b = false ∧ alike3 a b = true ∧ a.wt = c + b.wt
structure ArcU (m : MachL) (q : Nat) (l : List ArcL) : Prop where
  nd : l.Pairwise fun x y => alike3 y x = false
  src : ∀ a ∈ l, Far1 m q a
  all : ∀ p c b, EP m q p c → b ∈ arcsQ m p → emptyA b = false → ∃ a ∈ l, alike3 a b = true ∧ a.wt ≤ c + b.wt
structure ArcR (m : MachL) (q : Nat) (l : List ArcL) : Prop where
  ord : l.Pairwise lt3
  src : ∀ a ∈ l, Far1 m q a
  all : ∀ p c b, EP m q p c → b ∈ arcsQ m p → emptyA b = false → ∃ a ∈ l, alike3 a b = true ∧ a.wt ≤ c + b.wt
structure RemR (m x : MachL) : Prop where
  start : x.start = m.start
  len : x.states.length = m.states.length
  fin : ∀ q, q < m.states.length → FinR m q (finQ x q)
  arcs : ∀ q, q < m.states.length → ArcR m q (arcsQ x q)

theorem alike3_false_symm {a b : ArcL} (h : alike3 a b = false) : alike3 b a = false := by
  cases e : alike3 b a with
  | false => rfl
  | true => rw [alike3_symm e] at h; cases h
theorem ArcU.sort {m : MachL} {q : Nat} {l : List ArcL} (h : ArcU m q l) : ArcR m q (sortK readKy l) := by
  have hp := sortK_perm readKy l
  refine ⟨?_, fun a ha => h.src a ((sortK_mem _ _ _).1 ha), fun p c b h1 h2 h3 => ?_⟩
  · have h1 : (sortK readKy l).Pairwise fun x y => alike3 y x = false := hp.symm.pairwise h.nd fun {x y} e => alike3_false_symm e
    exact (List.Pairwise.and (sortK_sorted readKy_ok l) h1).imp fun h => ord_lt3 h.1 h.2
  · obtain ⟨a, ha, r⟩ := h.all p c b h1 h2 h3
    exact ⟨a, (sortK_mem _ _ _).2 ha, r⟩

theorem lt3_irr {a : ArcL} : ¬ lt3 a a := fun h => by have := lt3_not h; rw [alike3_self] at this; cases this
/-- two rows in order with the same arcs -/
theorem row_eq : ∀ {l k : List ArcL}, l.Pairwise lt3 → k.Pairwise lt3 → (∀ a, a ∈ l ↔ a ∈ k) → l = k
  | [], [], _, _, _ => rfl
  | [], b :: k, _, _, h => absurd ((h b).2 (by simp)) (by simp)
  | a :: l, [], _, _, h => absurd ((h a).1 (by simp)) (by simp)
  | a :: l, b :: k, hl, hk, h => by
    obtain ⟨l1, l2⟩ := List.pairwise_cons.1 hl
    obtain ⟨k1, k2⟩ := List.pairwise_cons.1 hk
    have e : a = b := by
      rcases List.mem_cons.1 ((h a).1 (by simp)) with e | e
      · exact e
      · rcases List.mem_cons.1 ((h b).2 (by simp)) with e' | e'
        · exact e'.symm
        · exact absurd (lt3_trans (k1 a e) (l1 b e')) lt3_irr
    subst e
    have ht : ∀ x, x ∈ l ↔ x ∈ k := fun x => by
      constructor
      · intro hx
        rcases List.mem_cons.1 ((h x).1 (List.mem_cons_of_mem _ hx)) with e | e
        · subst e; exact absurd (l1 x hx) lt3_irr
        · exact e
      · intro hx
        rcases List.mem_cons.1 ((h x).2 (List.mem_cons_of_mem _ hx)) with e | e
        · subst e; exact absurd (k1 x hx) lt3_irr
        · exact e
    rw [row_eq l2 k2 ht]
theorem alike3_eq {a b : ArcL} (h : alike3 a b = true) (hw : a.wt = b.wt) : a = b := by
  obtain ⟨h1, h2, h3⟩ := alike3_iff.1 h
  cases a; cases b; simp_all
/-- in a row in order no two arcs are alike -/
theorem row_one {l : List ArcL} (h : l.Pairwise lt3) {a b : ArcL} (ha : a ∈ l) (hb : b ∈ l) (hab : alike3 a b = true) : a = b := by
  induction l with
  | nil => cases ha
  | cons x l ih =>
    obtain ⟨h1, h2⟩ := List.pairwise_cons.1 h
    rcases List.mem_cons.1 ha with e | e
    · rcases List.mem_cons.1 hb with e' | e'
      · rw [e, e']
      · subst e; have := lt3_not (h1 b e'); rw [alike3_symm hab] at this; cases this
    · rcases List.mem_cons.1 hb with e' | e'
      · subst e'; have := lt3_not (h1 a e); rw [hab] at this; cases this
      · exact ih h2 e e'

/-! ### without empty arcs -/
def NoEmpty (m : MachL) : Prop := ∀ p, ∀ a ∈ arcsQ m p, emptyA a = false
theorem EP.none {m : MachL} (h : NoEmpty m) {q p : Nat} {c : Int} (he : EP m q p c) : p = q ∧ c = 0 := by
  induction he with
  | nil => exact ⟨rfl, rfl⟩
  | step _ ha hb => rw [h _ _ ha] at hb; cases hb
theorem emptyA_alike {a b : ArcL} (h : alike3 a b = true) : emptyA a = emptyA b := by
  obtain ⟨h1, h2, -⟩ := alike3_iff.1 h
  unfold emptyA; rw [h1, h2]
theorem out_arcs {m : MachL} {q : Nat} (h : m.states.length ≤ q) : arcsQ m q = [] := by
  unfold arcsQ; rw [List.getElem?_eq_none h]; rfl
theorem RemR.noEmpty {m x : MachL} (h : RemR m x) : NoEmpty x := by
  intro q a ha
  rcases Nat.lt_or_ge q m.states.length with hq | hq
  · obtain ⟨p, c, b, -, -, h3, h4, -⟩ := (h.arcs q hq).src a ha
    rw [emptyA_alike h4]; exact h3
  · rw [out_arcs (by rw [h.len]; exact hq)] at ha; cases ha
theorem FinR.none {m : MachL} (hn : NoEmpty m) {q : Nat} {f : Int} (h : FinR m q f) : f = finQ m q := by
  rcases h with ⟨h1, h2⟩ | ⟨h1, ⟨p, c, h2, h3, h4⟩, -⟩
  · rw [h1, h2 q 0 EP.nil]
  · obtain ⟨rfl, rfl⟩ := h2.none hn; omega
theorem mach_ext {a b : MachL} (h1 : a.start = b.start) (h2 : a.states.length = b.states.length) (h3 : ∀ q, q < a.states.length → finQ a q = finQ b q) (h4 : ∀ q, q < a.states.length → arcsQ a q = arcsQ b q) : a = b := by
  obtain ⟨s, l⟩ := a; obtain ⟨s', l'⟩ := b
  simp only at h1 h2
  subst h1
  congr 1
  refine List.ext_getElem h2 fun i hi hi' => ?_
  have e3 := h3 i hi; have e4 := h4 i hi
  unfold finQ at e3; unfold arcsQ at e4
  simp only [List.getElem?_eq_getElem hi, List.getElem?_eq_getElem hi', Option.map_some, Option.getD_some] at e3 e4
  cases hx : l[i]; cases hy : l'[i]
  rw [hx, hy] at e3 e4; simp only at e3 e4; rw [e3, e4]
theorem ArcR.none {m : MachL} (hn : NoEmpty m) {q : Nat} {l : List ArcL} (h : ArcR m q l) (a : ArcL) : a ∈ l ↔ a ∈ arcsQ m q ∧ ∀ b ∈ arcsQ m q, alike3 a b = true → a.wt ≤ b.wt := by
  have key : ∀ a ∈ l, a ∈ arcsQ m q := fun a ha => by
    obtain ⟨p, c, b, h1, h2, h3, h4, h5⟩ := h.src a ha
    obtain ⟨rfl, rfl⟩ := h1.none hn
    rw [alike3_eq h4 (by omega)]; exact h2
  constructor
  · intro ha
    refine ⟨key a ha, fun b hb hab => ?_⟩
    obtain ⟨x, hx, h1, h2⟩ := h.all q 0 b EP.nil hb (hn _ _ hb)
    have := row_one h.ord ha hx (alike3_trans hab (alike3_symm h1))
    subst this; omega
  · rintro ⟨ha, hm⟩
    obtain ⟨x, hx, h1, h2⟩ := h.all q 0 a EP.nil ha (hn _ _ ha)
    have h3 := hm x (key x hx) (alike3_symm h1)
    rw [← alike3_eq h1 (by omega)]; exact hx
theorem merge_iff (l : List ArcL) (a : ArcL) : a ∈ mergeL l ↔ a ∈ l ∧ ∀ b ∈ l, alike3 a b = true → a.wt ≤ b.wt := by
  constructor
  · intro ha
    refine ⟨mergeL_mem ha, fun b hb hab => ?_⟩
    obtain ⟨x, hx, h1, h2⟩ := mergeL_light hb
    have := row_one (mergeL_lt l) ha hx (alike3_trans hab h1)
    subst this; exact h2
  · rintro ⟨ha, hm⟩
    obtain ⟨x, hx, h1, h2⟩ := mergeL_light ha
    have h3 := hm x (mergeL_mem hx) h1
    rw [alike3_eq h1 (by omega)]; exact hx
theorem arcsQ_arr {f : List ArcL → List ArcL} (f0 : f [] = []) (m : MachL) (q : Nat) : arcsQ (arrM f m) q = f (arcsQ m q) := by
  unfold arcsQ arrM
  simp only [List.getElem?_map]
  cases m.states[q]? <;> simp [f0]
theorem finQ_arr (f : List ArcL → List ArcL) (m : MachL) (q : Nat) : finQ (arrM f m) q = finQ m q := by
  unfold finQ arrM
  simp only [List.getElem?_map]
  cases m.states[q]? <;> simp
/-- where there are no empty arcs, arcs are merged -/
theorem RemR.merged {m z : MachL} (h : RemR m z) (hn : NoEmpty m) : z = arrM mergeL m := by
  refine mach_ext h.start (by rw [h.len, arrM_len]) (fun q hq => ?_) fun q hq => ?_
  · rw [finQ_arr]; exact (h.fin q (by rw [← h.len]; exact hq)).none hn
  · have ha := h.arcs q (by rw [← h.len]; exact hq)
    rw [arcsQ_arr mergeL_nil]
    refine row_eq ha.ord (mergeL_lt _) fun a => ?_
    rw [ha.none hn, merge_iff]
/-- and again it stays -/
theorem RemR.again {m x y : MachL} (h : RemR m x) (k : RemR x y) : x = y := by
  rw [k.merged h.noEmpty]
  refine mach_ext rfl (by rw [arrM_len]) (fun q _ => (finQ_arr _ _ _).symm) fun q hq => ?_
  rw [arcsQ_arr mergeL_nil]
  have ha := h.arcs q (by rw [← h.len]; exact hq)
  refine row_eq ha.ord (mergeL_lt _) fun a => ?_
  rw [merge_iff]
  constructor
  · intro hx
    refine ⟨hx, fun b hb hab => ?_⟩
    rw [row_one ha.ord hx hb hab]; exact Int.le_refl _
  · exact fun hx => hx.1

/-! ### costs -/
theorem arcsP_Q (m : MachL) (p : Pl) : arcsP m p = arcsQ m p.1 := rfl
theorem finalP_Q (m : MachL) (p : Pl) : finalP m p = finQ m p.1 := rfl
theorem nextP_empty {x y : List Int} {any : Bool} {p : Pl} {a : ArcL} (h : emptyA a = true) : nextP x y any p a = some (a.to.toNat, p.2.1, p.2.2) := by
  unfold emptyA at h
  simp only [Bool.and_eq_true, beq_iff_eq] at h
  unfold nextP
  simp [h.1, h.2, stepOk, stepAt]
theorem nextP_state {x y : List Int} {any : Bool} {p p' : Pl} (h : p'.2 = p.2) (a : ArcL) : nextP x y any p' a = nextP x y any p a := by
  unfold nextP; rw [h]
theorem nextP_alike {x y : List Int} {any : Bool} {p : Pl} {a b : ArcL} (h : alike3 a b = true) : nextP x y any p a = nextP x y any p b := by
  obtain ⟨h1, h2, h3⟩ := alike3_iff.1 h
  unfold nextP; rw [h1, h2, h3]
theorem ep_rw {m : MachL} {x y : List Int} {any : Bool} {q i j : Nat} {c : Int} (h : RW m x y any (q, i, j) c) {p : Nat} {e : Int} (he : EP m q p e) : RW m x y any (p, i, j) (c + e) := by
  induction he with
  | nil => rw [Int.add_zero]; exact h
  | step _ ha hb ih => rw [← Int.add_assoc]; exact ih.step ha (nextP_empty hb)
theorem RemR.rng {m n : MachL} (h : RemR m n) {q : Nat} (hq : arcsQ n q ≠ [] ∨ finQ n q ≠ INF) : q < m.states.length := by
  rcases Nat.lt_or_ge q m.states.length with hl | hl
  · exact hl
  · rcases hq with hq | hq
    · exact absurd (out_arcs (by rw [h.len]; exact hl)) hq
    · refine absurd ?_ hq
      unfold finQ; rw [List.getElem?_eq_none (by rw [h.len]; exact hl)]; rfl
theorem RemR.rw {m n : MachL} (h : RemR m n) {x y : List Int} {any : Bool} {p : Pl} {c : Int} (hr : RW n x y any p c) : RW m x y any p c := by
  induction hr with
  | start h0 => rw [h.start] at h0 ⊢; exact RW.start h0
  | @step p c a r _ ha hn ih =>
    have hq := h.rng (q := p.1) (.inl fun e => by rw [arcsP_Q, e] at ha; cases ha)
    obtain ⟨s, e, b, h1, h2, h3, h4, h5⟩ := (h.arcs _ hq).src a ha
    have h6 := ep_rw (q := p.1) (i := p.2.1) (j := p.2.2) ih h1
    rw [h5, ← Int.add_assoc]
    exact h6.step h2 (by rw [nextP_state (p := p) (p' := (s, p.2.1, p.2.2)) rfl, ← nextP_alike h4]; exact hn)
theorem RemR.tot {m n : MachL} (h : RemR m n) {x y : List Int} {any : Bool} {c : Int} (ht : Tot n x y any c) : Tot m x y any c := by
  obtain ⟨p, d, hr, he, hf, rfl⟩ := ht
  rw [finalP_Q] at *
  have hq := h.rng (q := p.1) (.inr hf)
  rcases h.fin _ hq with ⟨h1, -⟩ | ⟨-, ⟨s, e, h1, h2, h3⟩, -⟩
  · exact absurd h1 hf
  · have h6 := ep_rw (q := p.1) (i := p.2.1) (j := p.2.2) (h.rw hr) h1
    exact ⟨(s, p.2.1, p.2.2), d + e, h6, he, h2, by rw [h3]; show _ = d + e + finQ m s; omega⟩
theorem RemR.rw_of {m n : MachL} (h : RemR m n) (ok : ArcsOk m) (h0 : 0 ≤ m.start → m.start < m.states.length) {x y : List Int} {any : Bool} {p : Pl} {c : Int} (hr : RW m x y any p c) :
    ∃ q d e, RW n x y any (q, p.2.1, p.2.2) d ∧ EP m q p.1 e ∧ d + e ≤ c ∧ q < m.states.length := by
  induction hr with
  | start hs => exact ⟨m.start.toNat, 0, 0, by rw [← h.start]; exact RW.start (by rw [h.start]; exact hs), EP.nil, by omega, by have := h0 hs; omega⟩
  | @step p c a r _ ha hn ih =>
    obtain ⟨q, d, e, h1, h2, h3, h4⟩ := ih
    cases hb : emptyA a with
    | true =>
      rw [nextP_empty hb] at hn
      injection hn with hn; subst hn
      exact ⟨q, d, e + a.wt, h1, h2.step ha hb, by omega, h4⟩
    | false =>
      obtain ⟨b, k1, k2, k3⟩ := (h.arcs q h4).all _ _ a h2 ha hb
      have hr : r.1 = a.to.toNat := by
        unfold nextP at hn
        split at hn
        · injection hn with hn; rw [← hn]
        · cases hn
      refine ⟨r.1, d + b.wt, 0, h1.step k1 (by rw [nextP_alike k2, nextP_state (p := p) (p' := (q, p.2.1, p.2.2)) rfl]; exact hn), EP.nil, by omega, ?_⟩
      rw [hr]; have := ok.to0 p.1 a ha; omega
theorem RemR.tot_of {m n : MachL} (h : RemR m n) (ok : ArcsOk m) (h0 : 0 ≤ m.start → m.start < m.states.length) {x y : List Int} {any : Bool} {c : Int} (ht : Tot m x y any c) : ∃ d, d ≤ c ∧ Tot n x y any d := by
  obtain ⟨p, d, hr, he, hf, rfl⟩ := ht
  rw [finalP_Q] at *
  obtain ⟨q, d', e, h1, h2, h3, h4⟩ := h.rw_of ok h0 hr
  rcases h.fin q h4 with ⟨k1, k2⟩ | ⟨k1, -, k2⟩
  · exact absurd (k2 _ _ h2) hf
  · have := k2 _ _ h2 hf
    exact ⟨d' + finQ n q, by omega, (q, p.2.1, p.2.2), d', h1, he, k1, rfl⟩
theorem RemR.best {m n : MachL} (h : RemR m n) (ok : ArcsOk m) (h0 : 0 ≤ m.start → m.start < m.states.length) {x y : List Int} {r r' : Int} (hb : Best (Tot m x y false) r) (hb' : Best (Tot n x y false) r') : r' = r :=
  (Best.least hb hb' (fun _ => h.tot) (fun _ => h.tot_of ok h0)).symm
end Go.Proofs.Ytlfjccgbngnjhaa
