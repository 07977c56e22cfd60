/- compose.Compose (plain): triples, hops, and that composed ways are pairs of ways. -/
import Derived.Test.YtkmnacchiagipaaDoorCost
namespace Go.Proofs.YtkmnacchiagipaaDoor

structure TriL where
  a : Nat
  b : Nat
  f : Nat
deriving DecidableEq
structure HopL where
  inn : Int
  out : Int
  wt : Int
  goes : TriL
def arcsQ (m : MachL) (q : Nat) : List ArcL := ((m.states[q]?).map (·.arcs)).getD []
def finQ (m : MachL) (q : Nat) : Int := ((m.states[q]?).map (·.final)).getD INF
def meet (f : Nat) (x y : ArcL) : Bool := x.out == y.inn && (x.out != 0 || f == 0)
def hopB (x y : ArcL) : HopL := ⟨x.inn, y.out, x.wt + y.wt, ⟨x.to.toNat, y.to.toNat, 0⟩⟩
def hopLt (t : TriL) (x : ArcL) : HopL := ⟨x.inn, 0, x.wt, ⟨x.to.toNat, t.b, 1⟩⟩
def hopR (t : TriL) (y : ArcL) : HopL := ⟨0, y.out, y.wt, ⟨t.a, y.to.toNat, 2⟩⟩
/-- the hops of x on the left -/
def hopsL (t : TriL) (right : List ArcL) (x : ArcL) : List HopL := (right.filter (meet t.f x)).map (hopB x) ++ if x.out = 0 ∧ t.f ≠ 2 then [hopLt t x] else []
def hopsR (t : TriL) (right : List ArcL) : List HopL := (right.filter (fun y => y.inn == 0 && t.f != 1)).map (hopR t)
def hopsX (a b : MachL) (t : TriL) : List HopL := (arcsQ a t.a).flatMap (hopsL t (arcsQ b t.b)) ++ hopsR t (arcsQ b t.b)
def timesI (x y : Int) : Int := if x = INF ∨ y = INF then INF else x + y
def finT (a b : MachL) (t : TriL) : Int := timesI (finQ a t.a) (finQ b t.b)
section
variable {a b : MachL}
theorem hops_mem {t : TriL} {h : HopL} : h ∈ hopsX a b t ↔ (∃ x ∈ arcsQ a t.a, ∃ y ∈ arcsQ b t.b, meet t.f x y = true ∧ h = hopB x y) ∨ (∃ x ∈ arcsQ a t.a, x.out = 0 ∧ t.f ≠ 2 ∧ h = hopLt t x) ∨ (∃ y ∈ arcsQ b t.b, y.inn = 0 ∧ t.f ≠ 1 ∧ h = hopR t y) := by
  unfold hopsX hopsR
  rw [List.mem_append, List.mem_flatMap]
  constructor
  · rintro (⟨x, hx, h1⟩ | h1)
    · unfold hopsL at h1
      rcases List.mem_append.1 h1 with h2 | h2
      · obtain ⟨y, hy, rfl⟩ := List.mem_map.1 h2
        obtain ⟨h3, h4⟩ := List.mem_filter.1 hy
        exact .inl ⟨x, hx, y, h3, h4, rfl⟩
      · split at h2
        · rename_i hc
          exact .inr (.inl ⟨x, hx, hc.1, hc.2, by simpa using h2⟩)
        · cases h2
    · obtain ⟨y, hy, rfl⟩ := List.mem_map.1 h1
      obtain ⟨h3, h4⟩ := List.mem_filter.1 hy
      simp at h4
      exact .inr (.inr ⟨y, h3, h4.1, h4.2, rfl⟩)
  · rintro (⟨x, hx, y, hy, hm, rfl⟩ | ⟨x, hx, h1, h2, rfl⟩ | ⟨y, hy, h1, h2, rfl⟩)
    · left
      refine ⟨x, hx, ?_⟩
      unfold hopsL
      exact List.mem_append.2 (.inl (List.mem_map.2 ⟨y, List.mem_filter.2 ⟨hy, hm⟩, rfl⟩))
    · left
      refine ⟨x, hx, ?_⟩
      unfold hopsL
      rw [if_pos ⟨h1, h2⟩]
      simp
    · right
      exact List.mem_map.2 ⟨y, List.mem_filter.2 ⟨hy, by simp [h1, h2]⟩, rfl⟩
/-- what ways along hops cost -/
inductive AccT (a b : MachL) : TriL → List Int → List Int → Int → Prop
  | fin {t : TriL} : finT a b t ≠ INF → AccT a b t [] [] (finT a b t)
  | hop {t : TriL} {h : HopL} {x z : List Int} {c : Int} : h ∈ hopsX a b t → AccT a b h.goes x z c → AccT a b t (pre h.inn ++ x) (pre h.out ++ z) (h.wt + c)
theorem timesI_ne {x y : Int} (h : timesI x y ≠ INF) : x ≠ INF ∧ y ≠ INF ∧ timesI x y = x + y := by
  unfold timesI at h ⊢
  by_cases hc : x = INF ∨ y = INF
  · rw [if_pos hc] at h; exact absurd rfl h
  · rw [if_neg hc]
    exact ⟨fun e => hc (.inl e), fun e => hc (.inr e), rfl⟩
theorem arcsQ_mem {m : MachL} {q : Nat} {x : ArcL} (h : x ∈ arcsQ m q) : ∃ s, m.states[q]? = some s ∧ x ∈ s.arcs := by
  unfold arcsQ at h
  cases hs : m.states[q]? with
  | none => rw [hs] at h; simp at h
  | some s => rw [hs] at h; exact ⟨s, rfl, by simpa using h⟩
theorem finQ_ne {m : MachL} {q : Nat} (h : finQ m q ≠ INF) : ∃ s, m.states[q]? = some s ∧ s.final = finQ m q := by
  unfold finQ at h ⊢
  cases hs : m.states[q]? with
  | none => rw [hs] at h; exact absurd rfl h
  | some s => exact ⟨s, rfl, rfl⟩
theorem accW_finQ {m : MachL} {q : Nat} (h : finQ m q ≠ INF) : AccW m q [] [] (finQ m q) := by
  obtain ⟨s, h1, h2⟩ := finQ_ne h
  rw [← h2] at h ⊢
  exact .fin h1 h
theorem accW_arcQ {m : MachL} {q : Nat} {e : ArcL} (h : e ∈ arcsQ m q) {x y : List Int} {c : Int} (h2 : AccW m e.to.toNat x y c) : AccW m q (pre e.inn ++ x) (pre e.out ++ y) (e.wt + c) := by
  obtain ⟨s, h1, h3⟩ := arcsQ_mem h
  exact .arc h1 h3 h2
theorem pre_zero : pre 0 = [] := rfl
/-- a composed way is a way of each -/
theorem accT_parts {t : TriL} {x z : List Int} {c : Int} (h : AccT a b t x z c) : ∃ y c1 c2, AccW a t.a x y c1 ∧ AccW b t.b y z c2 ∧ c = c1 + c2 := by
  induction h with
  | @fin t hf =>
    obtain ⟨h1, h2, h3⟩ := timesI_ne hf
    exact ⟨[], _, _, accW_finQ h1, accW_finQ h2, h3⟩
  | @hop t h x z c hm _ ih =>
    obtain ⟨y, c1, c2, g1, g2, rfl⟩ := ih
    rcases hops_mem.1 hm with ⟨e1, he1, e2, he2, hmt, rfl⟩ | ⟨e1, he1, h1, h2, rfl⟩ | ⟨e2, he2, h1, h2, rfl⟩
    · unfold meet at hmt
      simp at hmt
      refine ⟨pre e1.out ++ y, e1.wt + c1, e2.wt + c2, accW_arcQ he1 g1, ?_, ?_⟩
      · rw [hmt.1]; exact accW_arcQ he2 g2
      · simp only [hopB]; omega
    · refine ⟨y, e1.wt + c1, c2, ?_, ?_, ?_⟩
      · have := accW_arcQ he1 g1
        rw [h1, pre_zero, List.nil_append] at this
        exact this
      · simp only [hopLt, pre_zero, List.nil_append]; exact g2
      · simp only [hopLt]; omega
    · refine ⟨y, c1, e2.wt + c2, ?_, ?_, ?_⟩
      · simp only [hopR, pre_zero, List.nil_append]; exact g1
      · have := accW_arcQ he2 g2
        rw [h1, pre_zero, List.nil_append] at this
        exact this
      · simp only [hopR]; omega
/-- a way as a list of arcs -/
def IsPath (m : MachL) : Nat → List ArcL → Prop
  | q, [] => finQ m q ≠ INF
  | q, e :: l => e ∈ arcsQ m q ∧ IsPath m e.to.toNat l
def inW (l : List ArcL) : List Int := l.flatMap (fun e => pre e.inn)
def outW (l : List ArcL) : List Int := l.flatMap (fun e => pre e.out)
def endQ (q : Nat) : List ArcL → Nat
  | [] => q
  | e :: l => endQ e.to.toNat l
def costP (m : MachL) (q : Nat) (l : List ArcL) : Int := (l.map (·.wt)).sum + finQ m (endQ q l)
theorem path_of {m : MachL} {q : Nat} {x y : List Int} {c : Int} (h : AccW m q x y c) : ∃ l, IsPath m q l ∧ inW l = x ∧ outW l = y ∧ costP m q l = c := by
  induction h with
  | @fin q s hs hf =>
    have e : finQ m q = s.final := by unfold finQ; rw [hs]; rfl
    exact ⟨[], by show finQ m q ≠ INF; rw [e]; exact hf, rfl, rfl, by simp [costP, endQ, e]⟩
  | @arc q s e x y c hs he _ ih =>
    obtain ⟨l, h1, rfl, rfl, rfl⟩ := ih
    have hm : e ∈ arcsQ m q := by unfold arcsQ; rw [hs]; exact he
    exact ⟨e :: l, ⟨hm, h1⟩, rfl, rfl, by simp [costP, endQ, Int.add_assoc]⟩
theorem pre_ne {z : Int} (h : z ≠ 0) : pre z = [z] := by unfold pre; rw [if_neg h]
theorem inW_cons (e : ArcL) (l : List ArcL) : inW (e :: l) = pre e.inn ++ inW l := rfl
theorem outW_cons (e : ArcL) (l : List ArcL) : outW (e :: l) = pre e.out ++ outW l := rfl
theorem costP_cons (m : MachL) (q : Nat) (e : ArcL) (l : List ArcL) : costP m q (e :: l) = e.wt + costP m e.to.toNat l := by simp [costP, endQ, Int.add_assoc]
/-- no two ends cost INF together -/
def EndOk (a b : MachL) : Prop := ∀ p q, finQ a p ≠ INF → finQ b q ≠ INF → finQ a p + finQ b q ≠ INF
theorem pair_acc (hE : EndOk a b) : ∀ (n : Nat) (l1 l2 : List ArcL) (p q f : Nat), l1.length + l2.length < n → IsPath a p l1 → IsPath b q l2 → outW l1 = inW l2 →
    (f = 0 ∨ (f = 1 ∧ ∀ e r, l2 = e :: r → e.inn ≠ 0) ∨ (f = 2 ∧ ∀ e r, l1 = e :: r → e.out ≠ 0)) → AccT a b ⟨p, q, f⟩ (inW l1) (outW l2) (costP a p l1 + costP b q l2) := by
  intro n
  induction n with
  | zero => intro l1 l2 p q f hn; omega
  | succ n ih =>
    intro l1 l2 p q f hn h1 h2 hw hf
    -- the left one alone
    have left : ∀ e1 r1, l1 = e1 :: r1 → e1.out = 0 → (∀ e r, l2 = e :: r → e.inn ≠ 0) → AccT a b ⟨p, q, f⟩ (inW l1) (outW l2) (costP a p l1 + costP b q l2) := fun e1 r1 he ho hh => by
      subst he
      have hf2 : f ≠ 2 := fun e => by
        rcases hf with h | ⟨h, -⟩ | ⟨-, h⟩
        · omega
        · omega
        · exact h e1 r1 rfl ho
      rw [outW_cons, ho, pre_zero, List.nil_append] at hw
      have g := ih r1 l2 e1.to.toNat q 1 (by simp at hn; omega) h1.2 h2 hw (.inr (.inl ⟨rfl, hh⟩))
      have g2 := AccT.hop (t := ⟨p, q, f⟩) (h := hopLt ⟨p, q, f⟩ e1) (hops_mem.2 (.inr (.inl ⟨e1, h1.1, ho, hf2, rfl⟩))) g
      rw [inW_cons, costP_cons]
      have e9 : e1.wt + costP a e1.to.toNat r1 + costP b q l2 = e1.wt + (costP a e1.to.toNat r1 + costP b q l2) := by omega
      rw [e9]
      exact g2
    have right : ∀ e2 r2, l2 = e2 :: r2 → e2.inn = 0 → (∀ e r, l1 = e :: r → e.out ≠ 0) → AccT a b ⟨p, q, f⟩ (inW l1) (outW l2) (costP a p l1 + costP b q l2) := fun e2 r2 he ho hh => by
      subst he
      have hf2 : f ≠ 1 := fun e => by
        rcases hf with h | ⟨-, h⟩ | ⟨h, -⟩
        · omega
        · exact h e2 r2 rfl ho
        · omega
      rw [inW_cons, ho, pre_zero, List.nil_append] at hw
      have g := ih l1 r2 p e2.to.toNat 2 (by simp at hn; omega) h1 h2.2 hw (.inr (.inr ⟨rfl, hh⟩))
      have g2 := AccT.hop (t := ⟨p, q, f⟩) (h := hopR ⟨p, q, f⟩ e2) (hops_mem.2 (.inr (.inr ⟨e2, h2.1, ho, hf2, rfl⟩))) g
      rw [outW_cons, costP_cons]
      have e9 : costP a p l1 + (e2.wt + costP b e2.to.toNat r2) = e2.wt + (costP a p l1 + costP b e2.to.toNat r2) := by omega
      rw [e9]
      exact g2
    have both : ∀ e1 r1 e2 r2, l1 = e1 :: r1 → l2 = e2 :: r2 → meet f e1 e2 = true → AccT a b ⟨p, q, f⟩ (inW l1) (outW l2) (costP a p l1 + costP b q l2) := fun e1 r1 e2 r2 he1 he2 hm => by
      subst he1; subst he2
      have hio : e1.out = e2.inn := by unfold meet at hm; simp at hm; exact hm.1
      rw [outW_cons, inW_cons, hio] at hw
      have g := ih r1 r2 e1.to.toNat e2.to.toNat 0 (by simp at hn; omega) h1.2 h2.2 (List.append_cancel_left hw) (.inl rfl)
      have g2 := AccT.hop (t := ⟨p, q, f⟩) (h := hopB e1 e2) (hops_mem.2 (.inl ⟨e1, h1.1, e2, h2.1, hm, rfl⟩)) g
      rw [inW_cons, outW_cons, costP_cons, costP_cons]
      have e9 : e1.wt + costP a e1.to.toNat r1 + (e2.wt + costP b e2.to.toNat r2) = e1.wt + e2.wt + (costP a e1.to.toNat r1 + costP b e2.to.toNat r2) := by omega
      rw [e9]
      exact g2
    cases l1 with
    | nil =>
      cases l2 with
      | nil =>
        have e3 : finT a b ⟨p, q, f⟩ = costP a p [] + costP b q [] := by
          show timesI (finQ a p) (finQ b q) = _
          unfold timesI
          rw [if_neg (fun h => h.elim h1 h2)]
          simp [costP, endQ]
        rw [← e3]
        refine AccT.fin ?_
        rw [e3]
        have := hE p q h1 h2
        simpa [costP, endQ] using this
      | cons e2 r2 =>
        have h0 : e2.inn = 0 := by
          apply Classical.byContradiction
          intro hne
          rw [inW_cons, pre_ne hne] at hw
          cases hw
        exact right e2 r2 rfl h0 (fun e r he => by cases he)
    | cons e1 r1 =>
      by_cases ho : e1.out = 0
      · cases l2 with
        | nil => exact left e1 r1 rfl ho (fun e r he => by cases he)
        | cons e2 r2 =>
          by_cases hi : e2.inn = 0
          · have hf0 : f = 0 := by
              rcases hf with h | ⟨-, h⟩ | ⟨-, h⟩
              · exact h
              · exact absurd hi (h e2 r2 rfl)
              · exact absurd ho (h e1 r1 rfl)
            exact both e1 r1 e2 r2 rfl rfl (by unfold meet; simp [ho, hi, hf0])
          · exact left e1 r1 rfl ho (fun e r he => by cases he; exact hi)
      · cases l2 with
        | nil =>
          rw [outW_cons, pre_ne ho] at hw
          cases hw
        | cons e2 r2 =>
          by_cases hi : e2.inn = 0
          · exact right e2 r2 rfl hi (fun e r he => by cases he; exact ho)
          · have hio : e1.out = e2.inn := by
              rw [outW_cons, inW_cons, pre_ne ho, pre_ne hi] at hw
              exact (List.cons.inj hw).1
            exact both e1 r1 e2 r2 rfl rfl (by unfold meet; simp [hio, hi])
/-- composed: a word between them -/
theorem accT_iff (hE : EndOk a b) (p q : Nat) (x z : List Int) (c : Int) : AccT a b ⟨p, q, 0⟩ x z c ↔ ∃ y c1 c2, AccW a p x y c1 ∧ AccW b q y z c2 ∧ c = c1 + c2 := by
  constructor
  · exact accT_parts
  · rintro ⟨y, c1, c2, h1, h2, rfl⟩
    obtain ⟨l1, k1, rfl, rfl, rfl⟩ := path_of h1
    obtain ⟨l2, k2, e, rfl, rfl⟩ := path_of h2
    exact pair_acc hE (l1.length + l2.length + 1) l1 l2 p q 0 (by omega) k1 k2 e.symm (.inl rfl)
end
/-- c is a and b composed; T: its states, as triples -/
structure ComposeOk (a b c : MachL) (T : List TriL) : Prop where
  start : c.start = 0
  first : T[0]? = some ⟨a.start.toNat, b.start.toNat, 0⟩
  nd : T.Nodup
  len : T.length = c.states.length
  fin : ∀ (i : Nat) (t : TriL) (s : StateL), T[i]? = some t → c.states[i]? = some s → s.final = finT a b t
  arcs : ∀ (i : Nat) (t : TriL) (s : StateL), T[i]? = some t → c.states[i]? = some s → s.arcs.length = (hopsX a b t).length ∧ ∀ (k : Nat) (h : HopL) (e : ArcL), (hopsX a b t)[k]? = some h → s.arcs[k]? = some e → e.inn = h.inn ∧ e.out = h.out ∧ e.wt = h.wt ∧ 0 ≤ e.to ∧ T[e.to.toNat]? = some h.goes
section
variable {a b c : MachL} {T : List TriL}
theorem ComposeOk.state (h : ComposeOk a b c T) {i : Nat} {t : TriL} (ht : T[i]? = some t) : ∃ s, c.states[i]? = some s := by
  have := (List.getElem?_eq_some_iff.1 ht).1
  rw [h.len] at this
  exact ⟨_, List.getElem?_eq_getElem this⟩
theorem ComposeOk.into (h : ComposeOk a b c T) {t : TriL} {x z : List Int} {d : Int} (hA : AccT a b t x z d) : ∀ i, T[i]? = some t → AccW c i x z d := by
  induction hA with
  | @fin t hf =>
    intro i hi
    obtain ⟨s, hs⟩ := h.state hi
    have e := h.fin i t s hi hs
    rw [← e] at hf ⊢
    exact .fin hs hf
  | @hop t hp x z d hm _ ih =>
    intro i hi
    obtain ⟨s, hs⟩ := h.state hi
    obtain ⟨g1, g2⟩ := h.arcs i t s hi hs
    obtain ⟨k, hk, hke⟩ := List.getElem_of_mem hm
    have hk2 : k < s.arcs.length := by omega
    obtain ⟨f1, f2, f3, f4, f5⟩ := g2 k hp _ (by rw [List.getElem?_eq_getElem hk, hke]) (List.getElem?_eq_getElem hk2)
    have g := AccW.arc hs (List.getElem_mem hk2) (ih _ f5)
    rw [f1, f2, f3] at g
    exact g
theorem ComposeOk.of (h : ComposeOk a b c T) {i : Nat} {x z : List Int} {d : Int} (hA : AccW c i x z d) : ∀ t, T[i]? = some t → AccT a b t x z d := by
  induction hA with
  | @fin i s hs hf =>
    intro t ht
    rw [h.fin i t s ht hs] at hf ⊢
    exact .fin hf
  | @arc i s e x z d hs he _ ih =>
    intro t ht
    obtain ⟨g1, g2⟩ := h.arcs i t s ht hs
    obtain ⟨k, hk, hke⟩ := List.getElem_of_mem he
    have hk2 : k < (hopsX a b t).length := by omega
    obtain ⟨f1, f2, f3, f4, f5⟩ := g2 k _ e (List.getElem?_eq_getElem hk2) (by rw [List.getElem?_eq_getElem hk, hke])
    have g := AccT.hop (List.getElem_mem hk2) (ih _ f5)
    rw [f1, f2, f3]
    exact g
/-- what is composed costs what the words between cost -/
theorem compose_tot (h : ComposeOk a b c T) (hE : EndOk a b) (ha : 0 ≤ a.start) (hb : 0 ≤ b.start) (x z : List Int) (d : Int) : Tot c x z false d ↔ ∃ y d1 d2, Tot a x y false d1 ∧ Tot b y z false d2 ∧ d = d1 + d2 := by
  rw [tot_accW]
  have hs : c.start.toNat = 0 := by rw [h.start]; rfl
  rw [hs]
  constructor
  · rintro ⟨-, h1⟩
    obtain ⟨y, c1, c2, g1, g2, e⟩ := (accT_iff hE _ _ x z d).1 (h.of h1 _ h.first)
    exact ⟨y, c1, c2, tot_accW.2 ⟨ha, g1⟩, tot_accW.2 ⟨hb, g2⟩, e⟩
  · rintro ⟨y, d1, d2, h1, h2, e⟩
    refine ⟨by rw [h.start]; exact Int.le_refl _, h.into ((accT_iff hE _ _ x z d).2 ⟨y, d1, d2, (tot_accW.1 h1).2, (tot_accW.1 h2).2, e⟩) _ h.first⟩
end
end Go.Proofs.YtkmnacchiagipaaDoor
