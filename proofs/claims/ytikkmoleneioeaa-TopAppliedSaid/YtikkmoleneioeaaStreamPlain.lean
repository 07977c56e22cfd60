/- stream (plain): marks, the better one of two, and what a closed set of marks is. -/
/- stream (plain): tables of marks, what is fed, and what comes out. -/
import Derived.Test.YtikkmoleneioeaaComposePlain
import Derived.Test.YtikkmoleneioeaaCheck
namespace Go.Proofs.Ytikkmoleneioeaa

structure KeyL where
  c : Int
  out : List Int
def codeI (y : List Int) : Int := y.foldl (fun s a => s * 1001 + a) 0
theorem codeI_snoc (y : List Int) (a : Int) : codeI (y ++ [a]) = codeI y * 1001 + a := by simp [codeI]
def GoodW (y : List Int) : Prop := ∀ a ∈ y, 1 ≤ a ∧ a ≤ 1000
theorem GoodW.snoc {y : List Int} {a : Int} : GoodW (y ++ [a]) ↔ GoodW y ∧ 1 ≤ a ∧ a ≤ 1000 := by
  constructor
  · intro h; exact ⟨fun x hx => h x (by simp [hx]), h a (by simp)⟩
  · rintro ⟨h, h1⟩ x hx
    rcases List.mem_append.1 hx with hx | hx
    · exact h x hx
    · rw [List.mem_singleton.1 hx]; exact h1
theorem list_snoc_cases {α : Type} (l : List α) : l = [] ∨ ∃ (y : List α) (a : α), l = y ++ [a] := by
  cases h : l.reverse with
  | nil => left; simpa using h
  | cons a r => right; exact ⟨r.reverse, a, by rw [← List.reverse_reverse l, h]; simp⟩
theorem codeI_nonneg : ∀ (n : Nat) (y : List Int), y.length = n → GoodW y → 0 ≤ codeI y := by
  intro n
  induction n with
  | zero => intro y hy _; rw [List.eq_nil_of_length_eq_zero hy]; simp [codeI]
  | succ n ih =>
    intro y hy hg
    rcases list_snoc_cases y with rfl | ⟨z, a, rfl⟩
    · simp at hy
    · rw [codeI_snoc]
      obtain ⟨h1, h2, h3⟩ := GoodW.snoc.1 hg
      have := ih z (by simpa using hy) h1
      omega
theorem codeI_inj : ∀ (n : Nat) (y z : List Int), y.length = n → z.length = n → GoodW y → GoodW z → codeI y = codeI z → y = z := by
  intro n
  induction n with
  | zero => intro y z hy hz _ _ _; rw [List.eq_nil_of_length_eq_zero hy, List.eq_nil_of_length_eq_zero hz]
  | succ n ih =>
    intro y z hy hz hg hk he
    rcases list_snoc_cases y with rfl | ⟨y, a, rfl⟩
    · simp at hy
    rcases list_snoc_cases z with rfl | ⟨z, b, rfl⟩
    · simp at hz
    rw [codeI_snoc, codeI_snoc] at he
    obtain ⟨h1, h2, h3⟩ := GoodW.snoc.1 hg
    obtain ⟨k1, k2, k3⟩ := GoodW.snoc.1 hk
    obtain rfl : a = b := by omega
    rw [ih y z (by simpa using hy) (by simpa using hz) h1 k1 (by omega)]
def klt (k k' : KeyL) : Prop := k.c < k'.c ∨ (k.c = k'.c ∧ (k.out.length < k'.out.length ∨ (k.out.length = k'.out.length ∧ codeI k.out < codeI k'.out)))
instance (k k' : KeyL) : Decidable (klt k k') := by unfold klt; infer_instance
theorem klt.trans {a b c : KeyL} (h : klt a b) (h' : klt b c) : klt a c := by unfold klt at *; omega
theorem klt.irrefl (a : KeyL) : ¬ klt a a := by unfold klt; omega
theorem nklt_trans {a b c : KeyL} (h : ¬ klt b a) (h' : ¬ klt c b) : ¬ klt c a := by unfold klt at *; omega
theorem klt.nle {a b : KeyL} (h : klt a b) : ¬ klt b a := by unfold klt at *; omega
theorem klt_lt_le {a b c : KeyL} (h : klt a b) (h' : ¬ klt c b) : klt a c := by unfold klt at *; omega
theorem klt_eq {a b : KeyL} (h : ¬ klt a b) (h' : ¬ klt b a) (ga : GoodW a.out) (gb : GoodW b.out) : a = b := by
  unfold klt at h h'
  obtain ⟨c, y⟩ := a
  obtain ⟨d, z⟩ := b
  simp only at *
  obtain rfl : c = d := by omega
  rw [codeI_inj z.length y z (by omega) rfl ga gb (by omega)]
theorem klt_same {a b : KeyL} (h : ¬ klt a b) (h' : ¬ klt b a) : a.c = b.c ∧ a.out.length = b.out.length := by
  unfold klt at h h'; omega
def extK (k : KeyL) (a : ArcL) : KeyL := ⟨k.c + a.wt, k.out ++ pre a.out⟩
theorem ext_mono {k k' : KeyL} (a : ArcL) (h : ¬ klt k' k) : ¬ klt (extK k' a) (extK k a) := by
  unfold klt extK pre at *
  by_cases h0 : a.out = 0
  · simp only [h0, if_true, List.append_nil]; omega
  · simp only [h0, if_false, codeI_snoc, List.length_append, List.length_singleton]; omega
theorem ext_ge (k : KeyL) {a : ArcL} (h : 0 ≤ a.wt) : ¬ klt (extK k a) k := by
  unfold klt extK pre
  by_cases h0 : a.out = 0
  · simp only [h0, if_true, List.append_nil]; omega
  · simp only [h0, if_false, List.length_append, List.length_singleton]; omega
theorem ext_good {k : KeyL} {a : ArcL} (h : GoodW k.out) (h0 : 0 ≤ a.out) (h1 : a.out ≤ 1000) : GoodW (extK k a).out := by
  unfold extK pre
  by_cases e : a.out = 0
  · simp only [e, if_true, List.append_nil]; exact h
  · simp only [e, if_false]; exact GoodW.snoc.2 ⟨h, by omega, h1⟩
/-- the least of what T tells -/
def MinK (T : KeyL → Prop) (o : Option KeyL) : Prop := (∀ k, o = some k → T k) ∧ ∀ k, T k → ∃ k', o = some k' ∧ ¬ klt k k'
theorem MinK.congr {T T' : KeyL → Prop} {o : Option KeyL} (h : MinK T o) (e : ∀ k, T k ↔ T' k) : MinK T' o := ⟨fun k hk => (e k).1 (h.1 k hk), fun k hk => h.2 k ((e k).2 hk)⟩
theorem MinK.eq {T : KeyL → Prop} {o o' : Option KeyL} (h : MinK T o) (h' : MinK T o') (g : ∀ k, T k → GoodW k.out) : o = o' := by
  cases o with
  | none =>
    cases o' with
    | none => rfl
    | some k => obtain ⟨x, hx, -⟩ := h.2 k (h'.1 k rfl); cases hx
  | some k =>
    obtain ⟨x, rfl, hx⟩ := h'.2 k (h.1 k rfl)
    obtain ⟨y, hy, hy'⟩ := h.2 x (h'.1 x rfl)
    cases hy
    rw [klt_eq hx hy' (g _ (h.1 _ rfl)) (g _ (h'.1 _ rfl))]
abbrev TabK := Nat → Option KeyL
def updK (L : TabK) (p : Nat) (k : KeyL) : TabK := fun q => if q = p then some k else L q
def betB (L : TabK) (p : Nat) (k : KeyL) : Bool := match L p with | none => true | some k' => decide (klt k k')
def putK (L : TabK) (p : Nat) (k : KeyL) : TabK := if betB L p k = true then updK L p k else L
theorem updK_at (L : TabK) (p : Nat) (k : KeyL) : updK L p k p = some k := by simp [updK]
theorem updK_ne (L : TabK) {p q : Nat} (k : KeyL) (h : q ≠ p) : updK L p k q = L q := by simp [updK, h]
theorem put_min {T : Nat → KeyL → Prop} {L : TabK} (h : ∀ p, MinK (T p) (L p)) (p : Nat) (k : KeyL) : ∀ q, MinK (fun k' => T q k' ∨ (q = p ∧ k' = k)) (putK L p k q) := by
  intro q
  unfold putK
  by_cases e : q = p
  · subst e
    have hq := h q
    unfold betB
    cases hL : L q with
    | none =>
      simp only [if_true, updK_at]
      rw [hL] at hq
      refine ⟨fun k' hk => .inr ⟨trivial, (Option.some.inj hk).symm⟩, fun k' hk => ⟨k, rfl, ?_⟩⟩
      rcases hk with hk | ⟨-, rfl⟩
      · obtain ⟨x, hx, -⟩ := hq.2 k' hk; cases hx
      · exact klt.irrefl _
    | some k0 =>
      rw [hL] at hq
      by_cases hlt : klt k k0
      · simp only [hlt, decide_true, if_true, updK_at]
        refine ⟨fun k' hk => .inr ⟨trivial, (Option.some.inj hk).symm⟩, fun k' hk => ⟨k, rfl, ?_⟩⟩
        rcases hk with hk | ⟨-, rfl⟩
        · obtain ⟨x, hx, hn⟩ := hq.2 k' hk
          obtain rfl := Option.some.inj hx
          exact nklt_trans hlt.nle hn
        · exact klt.irrefl _
      · simp only [hlt, decide_false, Bool.false_eq_true, if_false, hL]
        refine ⟨fun k' hk => .inl (hq.1 k' hk), fun k' hk => ?_⟩
        rcases hk with hk | ⟨-, rfl⟩
        · exact hq.2 k' hk
        · exact ⟨k0, rfl, hlt⟩
  · have e1 : ∀ b : Bool, (if b = true then updK L p k else L) q = L q := fun b => by cases b <;> simp [updK, e]
    rw [e1]
    exact (h q).congr fun k' => by simp [e]
/-- along arcs that read nothing -/
inductive Ext (m : MachL) (I : Nat → KeyL → Prop) : Nat → KeyL → Prop
  | base {q : Nat} {k : KeyL} : I q k → Ext m I q k
  | arc {q : Nat} {k : KeyL} {a : ArcL} : Ext m I q k → a ∈ arcsQ m q → a.inn = 0 → Ext m I a.to.toNat (extK k a)
theorem arcsQ_ok {m : MachL} (hv : Valid m) {q : Nat} {a : ArcL} (h : a ∈ arcsQ m q) : q < m.states.length ∧ ValidArc (m.states.length : Int) a := by
  unfold arcsQ at h
  cases hs : m.states[q]? with
  | none => rw [hs] at h; cases h
  | some s =>
    rw [hs] at h
    exact ⟨(List.getElem?_eq_some_iff.1 hs).1, (hv.st s (List.mem_of_getElem? hs)).2 a h⟩
/-- arcs one behind the other that read nothing -/
def EpsP (m : MachL) : Nat → List ArcL → Prop
  | _, [] => True
  | q, a :: l => a ∈ arcsQ m q ∧ a.inn = 0 ∧ EpsP m a.to.toNat l
theorem endQ_app (q : Nat) (l l' : List ArcL) : endQ q (l ++ l') = endQ (endQ q l) l' := by
  induction l generalizing q with
  | nil => rfl
  | cons a l ih => exact ih _
theorem EpsP.app {m : MachL} : ∀ (l l' : List ArcL) (q : Nat), EpsP m q (l ++ l') ↔ EpsP m q l ∧ EpsP m (endQ q l) l'
  | [], l', q => by simp [EpsP, endQ]
  | a :: l, l', q => by
    simp only [List.cons_append, EpsP, endQ, EpsP.app l l', and_assoc]
theorem ext_path {m : MachL} {I : Nat → KeyL → Prop} {q : Nat} {k : KeyL} (h : Ext m I q k) : ∃ q0 k0 l, I q0 k0 ∧ EpsP m q0 l ∧ endQ q0 l = q ∧ k = l.foldl extK k0 := by
  induction h with
  | @base q k hb => exact ⟨q, k, [], hb, trivial, rfl, rfl⟩
  | @arc q k a _ ha h0 ih =>
    obtain ⟨q0, k0, l, h1, h2, rfl, rfl⟩ := ih
    refine ⟨q0, k0, l ++ [a], h1, (EpsP.app _ _ _).2 ⟨h2, ha, h0, trivial⟩, ?_, by simp⟩
    rw [endQ_app]; rfl
theorem path_ext {m : MachL} {I : Nat → KeyL → Prop} : ∀ (l : List ArcL) (q0 : Nat) (k0 : KeyL), Ext m I q0 k0 → EpsP m q0 l → Ext m I (endQ q0 l) (l.foldl extK k0)
  | [], _, _, h, _ => h
  | _ :: l, _, _, h, ⟨h1, h2, h3⟩ => path_ext l _ _ (.arc h h1 h2) h3
theorem fold_mono (l : List ArcL) : ∀ {k k' : KeyL}, ¬ klt k' k → ¬ klt (l.foldl extK k') (l.foldl extK k) := by
  induction l with
  | nil => intro k k' h; exact h
  | cons a l ih => intro k k' h; exact ih (ext_mono a h)
theorem fold_ge {m : MachL} (hv : Valid m) : ∀ (l : List ArcL) (q : Nat) (k : KeyL), EpsP m q l → ¬ klt (l.foldl extK k) k
  | [], _, k, _ => klt.irrefl k
  | a :: l, _, k, ⟨h1, _, h3⟩ => nklt_trans (ext_ge k (arcsQ_ok hv h1).2.w0) (fold_ge hv l _ (extK k a) h3)
theorem cut_round : ∀ (l : List ArcL) (q : Nat), ¬ (q :: l.map (fun a => a.to.toNat)).Nodup → ∃ l1 l2 l3, l = l1 ++ l2 ++ l3 ∧ l2 ≠ [] ∧ endQ q l1 = endQ q (l1 ++ l2)
  | [], q, h => absurd (by simp) h
  | a :: l, q, h => by
    by_cases hq : q ∈ (a :: l).map (fun a => a.to.toNat)
    · obtain ⟨b, hb, he⟩ := List.mem_map.1 hq
      obtain ⟨s, t, hst⟩ := List.append_of_mem hb
      refine ⟨[], s ++ [b], t, by rw [hst]; simp, by simp, ?_⟩
      rw [List.nil_append, endQ_app]
      exact he.symm
    · have hn : ¬ (a.to.toNat :: l.map (fun a => a.to.toNat)).Nodup := fun hn => h (List.nodup_cons.2 ⟨hq, hn⟩)
      obtain ⟨l1, l2, l3, rfl, h2, h3⟩ := cut_round l a.to.toNat hn
      exact ⟨a :: l1, l2, l3, rfl, h2, h3⟩
theorem nodup_ltS : ∀ (n : Nat) (l : List Nat), l.Nodup → (∀ x ∈ l, x < n) → l.length ≤ n := by
  intro n
  induction n with
  | zero =>
    intro l _ h
    cases l with
    | nil => simp
    | cons a l => exact absurd (h a (by simp)) (by omega)
  | succ n ih =>
    intro l hn h
    have h1 := ih (l.erase n) (hn.erase n) fun x hx => by
      have h2 := h x (List.mem_of_mem_erase hx)
      have h3 : x ≠ n := fun e => by subst e; exact hn.not_mem_erase hx
      omega
    have := List.length_erase_le (a := n) (l := l)
    by_cases hm : n ∈ l
    · rw [List.length_erase_of_mem hm] at h1; omega
    · rw [List.erase_of_not_mem hm] at h1; omega
theorem eps_lt {m : MachL} (hv : Valid m) : ∀ (l : List ArcL) (q : Nat), EpsP m q l → ∀ x ∈ l.map (fun a => a.to.toNat), x < m.states.length
  | [], _, _, x, hx => by cases hx
  | a :: l, _, ⟨h1, _, h3⟩, x, hx => by
    have hva := (arcsQ_ok hv h1).2
    rcases List.mem_cons.1 hx with rfl | hx
    · have := hva.t0; have := hva.t1; show a.to.toNat < _; omega
    · exact eps_lt hv l _ h3 x hx
/-- the same without going round -/
theorem eps_short {m : MachL} (hv : Valid m) : ∀ (n : Nat) (l : List ArcL) (q : Nat) (k : KeyL), l.length ≤ n → q < m.states.length → EpsP m q l → ∃ l', EpsP m q l' ∧ endQ q l' = endQ q l ∧ ¬ klt (l.foldl extK k) (l'.foldl extK k) ∧ l'.length < m.states.length := by
  intro n
  induction n with
  | zero => intro l q k hl hq hp; exact ⟨l, hp, rfl, klt.irrefl _, by omega⟩
  | succ n ih =>
    intro l q k hl hq hp
    by_cases hs : l.length < m.states.length
    · exact ⟨l, hp, rfl, klt.irrefl _, hs⟩
    · have hn : ¬ (q :: l.map (fun a => a.to.toNat)).Nodup := fun hn => by
        have := nodup_ltS m.states.length _ hn fun x hx => by
          rcases List.mem_cons.1 hx with rfl | hx
          · exact hq
          · exact eps_lt hv l q hp x hx
        simp only [List.length_cons, List.length_map] at this
        omega
      obtain ⟨l1, l2, l3, rfl, h2, h3⟩ := cut_round l q hn
      have hlen : l2.length ≠ 0 := fun e => h2 (List.eq_nil_of_length_eq_zero e)
      obtain ⟨hp12, hp3⟩ := (EpsP.app _ _ _).1 hp
      obtain ⟨hp1, hp2⟩ := (EpsP.app _ _ _).1 hp12
      have hp' : EpsP m q (l1 ++ l3) := (EpsP.app _ _ _).2 ⟨hp1, h3 ▸ hp3⟩
      obtain ⟨l', g1, g2, g3, g4⟩ := ih (l1 ++ l3) q k (by simp only [List.length_append] at hl ⊢; omega) hq hp'
      refine ⟨l', g1, ?_, nklt_trans g3 ?_, g4⟩
      · rw [g2, endQ_app, endQ_app, ← h3]
      · rw [List.foldl_append, List.foldl_append, List.foldl_append]
        exact fold_mono l3 (fold_ge hv l2 _ _ hp2)
structure CSt where
  L : TabK
  t : List Nat
def getK (L : TabK) (q : Nat) : KeyL := (L q).getD ⟨0, []⟩
def relA (q : Nat) (S : CSt) (a : ArcL) : CSt := if a.inn = 0 ∧ betB S.L a.to.toNat (extK (getK S.L q) a) = true then ⟨updK S.L a.to.toNat (extK (getK S.L q) a), S.t ++ [a.to.toNat]⟩ else S
/-- each mark was had along a way that does not go round -/
def SimpK (m : MachL) (L0 L : TabK) : Prop := ∀ q k, L q = some k → ∃ q0 k0 l, L0 q0 = some k0 ∧ EpsP m q0 l ∧ endQ q0 l = q ∧ k = l.foldl extK k0 ∧ (q0 :: l.map (fun a => a.to.toNat)).Nodup ∧
  ∀ l1 l2, l = l1 ++ l2 → ∃ k', L (endQ q0 l1) = some k' ∧ ¬ klt (l1.foldl extK k0) k'
theorem SimpK.start (m : MachL) (L : TabK) : SimpK m L L := fun q k hq => ⟨q, k, [], hq, trivial, rfl, rfl, by simp, fun l1 l2 h => by
  obtain ⟨rfl, rfl⟩ := List.append_eq_nil_iff.1 h.symm
  exact ⟨k, hq, klt.irrefl _⟩⟩
theorem upd_le {L : TabK} {p : Nat} {k : KeyL} (hb : betB L p k = true) {q : Nat} {k' : KeyL} (hq : L q = some k') : ∃ k2, updK L p k q = some k2 ∧ ¬ klt k' k2 := by
  by_cases e : q = p
  · subst e
    rw [updK_at]
    refine ⟨_, rfl, ?_⟩
    unfold betB at hb
    rw [hq] at hb
    exact klt.nle (of_decide_eq_true hb)
  · rw [updK_ne _ _ e]; exact ⟨k', hq, klt.irrefl _⟩
theorem mem_pre : ∀ (l : List ArcL) (q p : Nat), p ∈ q :: l.map (fun a => a.to.toNat) → ∃ l1 l2, l = l1 ++ l2 ∧ endQ q l1 = p
  | [], q, p, h => ⟨[], [], rfl, by simp at h; exact h.symm⟩
  | a :: l, q, p, h => by
    rcases List.mem_cons.1 h with rfl | h
    · exact ⟨[], a :: l, rfl, rfl⟩
    · obtain ⟨l1, l2, rfl, h2⟩ := mem_pre l a.to.toNat p h
      exact ⟨a :: l1, l2, rfl, h2⟩
/-- all ways of at most so many arcs that read nothing -/
def epsL (m : MachL) : Nat → Nat → List (List ArcL)
  | 0, _ => [[]]
  | j + 1, q => [] :: ((arcsQ m q).filter (fun a => a.inn == 0)).flatMap (fun a => (epsL m j a.to.toNat).map (a :: ·))
theorem epsL_mem {m : MachL} : ∀ (l : List ArcL) (j q : Nat), EpsP m q l → l.length ≤ j → l ∈ epsL m j q
  | [], j, q, _, _ => by cases j <;> simp [epsL]
  | a :: l, j, q, ⟨h1, h2, h3⟩, hj => by
    cases j with
    | zero => simp at hj
    | succ j =>
      have := epsL_mem l j _ h3 (by simpa using hj)
      simp only [epsL, List.mem_cons, List.mem_flatMap, List.mem_filter, List.mem_map]
      exact .inr ⟨a, ⟨h1, by simp [h2]⟩, l, this, rfl⟩
def geo (AA : Nat) : Nat → Nat
  | 0 => 1
  | j + 1 => 1 + AA * geo AA j
theorem flat_le {α β : Type} (f : α → List β) (B : Nat) : ∀ l : List α, (∀ a ∈ l, (f a).length ≤ B) → (l.flatMap f).length ≤ l.length * B
  | [], _ => by simp
  | a :: l, h => by
    have h1 := h a (by simp)
    have h2 := flat_le f B l fun x hx => h x (by simp [hx])
    rw [List.flatMap_cons, List.length_append, List.length_cons, Nat.add_mul]
    omega
theorem epsL_len {m : MachL} {AA : Nat} (hA : ∀ q, (arcsQ m q).length ≤ AA) : ∀ j q, (epsL m j q).length ≤ geo AA j
  | 0, _ => by simp [epsL, geo]
  | j + 1, q => by
    have h1 := flat_le (fun a : ArcL => (epsL m j a.to.toNat).map (a :: ·)) (geo AA j) ((arcsQ m q).filter (fun a => a.inn == 0)) fun a _ => by rw [List.length_map]; exact epsL_len hA j _
    have h2 := List.length_filter_le (fun a : ArcL => a.inn == 0) (arcsQ m q)
    have h3 := Nat.mul_le_mul_right (geo AA j) (Nat.le_trans h2 (hA q))
    simp only [epsL, List.length_cons, geo]
    omega
/-- all marks that may ever be had -/
def candK (m : MachL) (L0 : TabK) (n : Nat) : List (Nat × KeyL) := (List.range n).flatMap fun q0 => match L0 q0 with | none => [] | some k0 => (epsL m (n - 1) q0).map fun l => (endQ q0 l, l.foldl extK k0)
theorem candK_len {m : MachL} {AA : Nat} (hA : ∀ q, (arcsQ m q).length ≤ AA) (L0 : TabK) (n : Nat) : (candK m L0 n).length ≤ n * geo AA (n - 1) := by
  have := flat_le (fun q0 => match L0 q0 with | none => [] | some k0 => (epsL m (n - 1) q0).map fun l => (endQ q0 l, l.foldl extK k0)) (geo AA (n - 1)) (List.range n) fun q _ => by
    cases L0 q with
    | none => simp
    | some k0 => simp only [List.length_map]; exact epsL_len hA _ _
  rw [List.length_range] at this
  exact this
theorem SimpK.upd {m : MachL} (hv : Valid m) {L0 L : TabK} (h0 : ∀ q k, L0 q = some k → q < m.states.length) (h : SimpK m L0 L) {q : Nat} {k : KeyL} {a : ArcL} (hk : L q = some k) (ha : a ∈ arcsQ m q) (hi : a.inn = 0) (hb : betB L a.to.toNat (extK k a) = true) :
    SimpK m L0 (updK L a.to.toNat (extK k a)) ∧ (a.to.toNat, extK k a) ∈ candK m L0 m.states.length := by
  obtain ⟨q0, k0, l, h1, h2, h3, h4, h5, h6⟩ := h q k hk
  have hnin : a.to.toNat ∉ q0 :: l.map (fun a => a.to.toNat) := fun hm => by
    obtain ⟨l1, l2, rfl, he⟩ := mem_pre l q0 _ hm
    obtain ⟨k', g1, g2⟩ := h6 l1 l2 rfl
    rw [he] at g1
    have hp2 := ((EpsP.app _ _ _).1 h2).2
    have hp3 : EpsP m (endQ q0 l1) (l2 ++ [a]) := (EpsP.app _ _ _).2 ⟨hp2, by rw [← endQ_app, h3]; exact ⟨ha, hi, trivial⟩⟩
    have hge := fold_ge hv (l2 ++ [a]) _ (l1.foldl extK k0) hp3
    rw [← List.foldl_append, ← List.append_assoc, List.foldl_append, ← h4] at hge
    unfold betB at hb
    rw [g1] at hb
    exact nklt_trans g2 hge (of_decide_eq_true hb)
  have hpa : EpsP m q0 (l ++ [a]) := (EpsP.app _ _ _).2 ⟨h2, by rw [h3]; exact ⟨ha, hi, trivial⟩⟩
  have hea : endQ q0 (l ++ [a]) = a.to.toNat := by rw [endQ_app]; rfl
  have hka : extK k a = (l ++ [a]).foldl extK k0 := by rw [h4]; simp
  have hnd : (q0 :: (l ++ [a]).map (fun a => a.to.toNat)).Nodup := by
    rw [List.map_append, ← List.cons_append, List.nodup_append]
    refine ⟨h5, by simp, fun x hx y hy e => ?_⟩
    simp only [List.map_cons, List.map_nil, List.mem_singleton] at hy
    subst e; subst hy
    exact hnin hx
  refine ⟨fun p k1 hp => ?_, ?_⟩
  · by_cases e : p = a.to.toNat
    · subst e
      rw [updK_at] at hp
      cases hp
      refine ⟨q0, k0, l ++ [a], h1, hpa, hea, hka, hnd, fun l1 l2 he => ?_⟩
      rcases list_snoc_cases l2 with rfl | ⟨l2, b, rfl⟩
      · rw [List.append_nil] at he
        subst he
        rw [hea, updK_at]
        exact ⟨_, rfl, by rw [← hka]; exact klt.irrefl _⟩
      · rw [← List.append_assoc] at he
        obtain ⟨e1, -⟩ := List.append_inj' he rfl
        obtain ⟨k', g1, g2⟩ := h6 l1 l2 e1
        obtain ⟨k2, g3, g4⟩ := upd_le hb g1
        exact ⟨k2, g3, nklt_trans g4 g2⟩
    · rw [updK_ne _ _ e] at hp
      obtain ⟨q1, k2, l', g1, g2, g3, g4, g5, g6⟩ := h p k1 hp
      refine ⟨q1, k2, l', g1, g2, g3, g4, g5, fun l1 l2 he => ?_⟩
      obtain ⟨k', f1, f2⟩ := g6 l1 l2 he
      obtain ⟨k3, f3, f4⟩ := upd_le hb f1
      exact ⟨k3, f3, nklt_trans f4 f2⟩
  · have hlen := nodup_ltS m.states.length _ hnd fun x hx => by
      rcases List.mem_cons.1 hx with rfl | hx
      · exact h0 _ _ h1
      · exact eps_lt hv _ q0 hpa x hx
    simp only [List.length_cons, List.length_map] at hlen
    unfold candK
    rw [List.mem_flatMap]
    refine ⟨q0, List.mem_range.2 (h0 _ _ h1), ?_⟩
    rw [h1]
    exact List.mem_map.2 ⟨l ++ [a], epsL_mem _ _ _ hpa (by omega), by rw [hea, hka]⟩
/-- how much may still get better -/
def lackK (C : List (Nat × KeyL)) (L : TabK) : Nat := C.countP fun p => betB L p.1 p.2
theorem countP_lt {α : Type} (p q : α → Bool) : ∀ l : List α, (∀ x ∈ l, p x = true → q x = true) → (∃ x ∈ l, p x = false ∧ q x = true) → l.countP p < l.countP q
  | [], _, ⟨_, h, _⟩ => by cases h
  | a :: l, h, ⟨x, hx, h1, h2⟩ => by
    have hm : l.countP p ≤ l.countP q := List.countP_mono_left fun y hy => h y (by simp [hy])
    have ha := h a (by simp)
    rw [List.countP_cons, List.countP_cons]
    rcases List.mem_cons.1 hx with rfl | hx
    · rw [h1, h2]; simp; omega
    · have := countP_lt p q l (fun y hy => h y (by simp [hy])) ⟨x, hx, h1, h2⟩
      cases hp : p a
      · simp; split <;> omega
      · rw [ha hp]; simp; omega
theorem lack_upd {C : List (Nat × KeyL)} {L : TabK} {p : Nat} {k : KeyL} (hc : (p, k) ∈ C) (hb : betB L p k = true) : lackK C (updK L p k) < lackK C L := by
  refine countP_lt _ _ C (fun x _ hx => ?_) ⟨(p, k), hc, ?_, hb⟩
  · cases hL : L x.1 with
    | none => unfold betB; rw [hL]
    | some k' =>
      obtain ⟨k2, h1, h2⟩ := upd_le hb hL
      unfold betB at hx ⊢
      rw [h1] at hx
      rw [hL]
      exact decide_eq_true (klt_lt_le (of_decide_eq_true hx) h2)
  · unfold betB
    simp only [updK_at]
    exact decide_eq_false (klt.irrefl _)
structure StInv (m : MachL) (L0 : TabK) (S : CSt) (cur : Nat) (pend : List ArcL) : Prop where
  sound : ∀ q k, S.L q = some k → Ext m (fun q k => L0 q = some k) q k
  base : ∀ q k, L0 q = some k → ∃ k', S.L q = some k' ∧ ¬ klt k k'
  simp : SimpK m L0 S.L
  first : ∀ q k, L0 q = some k → q < m.states.length
  good : ∀ q k, S.L q = some k → q < m.states.length ∧ GoodW k.out ∧ 0 ≤ k.c
  tin : ∀ q ∈ S.t, (S.L q).isSome = true
  clos : ∀ q k, S.L q = some k → q ∈ S.t ∨ ∀ a ∈ arcsQ m q, a.inn = 0 → (q = cur ∧ a ∈ pend) ∨ ∃ k', S.L a.to.toNat = some k' ∧ ¬ klt (extK k a) k'
  cur : pend = [] ∨ (S.L cur).isSome = true
theorem StInv.done {m : MachL} {L0 : TabK} {S : CSt} {cur : Nat} (h : StInv m L0 S cur []) (ht : S.t = []) (q : Nat) : MinK (Ext m (fun q k => L0 q = some k) q) (S.L q) := by
  refine ⟨h.sound q, fun k hk => ?_⟩
  induction hk with
  | base hb => exact h.base _ _ hb
  | @arc q k a hk ha h0 ih =>
    obtain ⟨k1, h1, h2⟩ := ih
    rcases h.clos _ _ h1 with hc | hc
    · rw [ht] at hc; cases hc
    · rcases hc a ha h0 with ⟨-, h3⟩ | ⟨k2, h3, h4⟩
      · cases h3
      · exact ⟨k2, h3, nklt_trans h4 (ext_mono a h2)⟩
theorem StInv.rel {m : MachL} (hv : Valid m) {L0 : TabK} {S : CSt} {cur : Nat} {a : ArcL} {ts : List ArcL} (h : StInv m L0 S cur (a :: ts)) (ha : a ∈ arcsQ m cur) : StInv m L0 (relA cur S a) cur ts := by
  have hsm : (S.L cur).isSome = true := by
    rcases h.cur with h | h
    · cases h
    · exact h
  obtain ⟨k0, hk0⟩ := Option.isSome_iff_exists.1 hsm
  have hg : getK S.L cur = k0 := by unfold getK; rw [hk0]; rfl
  have hva := (arcsQ_ok hv ha).2
  unfold relA
  rw [hg]
  by_cases hc : a.inn = 0 ∧ betB S.L a.to.toNat (extK k0 a) = true
  · rw [if_pos hc]
    obtain ⟨h0, hb⟩ := hc
    have hto : a.to.toNat < m.states.length := by have := hva.t0; have := hva.t1; omega
    have hne : a.to.toNat ≠ cur := fun e => by
      unfold betB at hb
      rw [e, hk0] at hb
      exact ext_ge k0 hva.w0 (of_decide_eq_true hb)
    have key : ∀ q k', S.L q = some k' → ∃ k2, updK S.L a.to.toNat (extK k0 a) q = some k2 ∧ ¬ klt k' k2 := fun q k' hq => upd_le hb hq
    refine ⟨fun q k hq => ?_, fun q k hi => ?_, (h.simp.upd hv h.first hk0 ha h0 hb).1, h.first, fun q k hq => ?_, fun q hq => ?_, fun q k hq => ?_, .inr ?_⟩
    · simp only at hq
      by_cases e : q = a.to.toNat
      · subst e
        rw [updK_at] at hq
        cases hq
        exact Ext.arc (h.sound _ _ hk0) ha h0
      · rw [updK_ne _ _ e] at hq; exact h.sound _ _ hq
    · obtain ⟨k1, h1, h2⟩ := h.base q k hi
      obtain ⟨k2, h3, h4⟩ := key q k1 h1
      exact ⟨k2, h3, nklt_trans h4 h2⟩
    · simp only at hq
      by_cases e : q = a.to.toNat
      · subst e
        rw [updK_at] at hq
        cases hq
        obtain ⟨-, g1, g2⟩ := h.good _ _ hk0
        refine ⟨hto, ext_good g1 hva.o0 hva.o1, ?_⟩
        have := hva.w0
        show 0 ≤ k0.c + a.wt
        omega
      · rw [updK_ne _ _ e] at hq; exact h.good _ _ hq
    · simp only at hq ⊢
      rcases List.mem_append.1 hq with hq | hq
      · obtain ⟨k1, h1⟩ := Option.isSome_iff_exists.1 (h.tin q hq)
        obtain ⟨k2, h3, -⟩ := key q k1 h1
        rw [h3]; rfl
      · rw [List.mem_singleton.1 hq, updK_at]; rfl
    · simp only at hq ⊢
      by_cases e : q = a.to.toNat
      · exact .inl (by simp [e])
      · rw [updK_ne _ _ e] at hq
        rcases h.clos _ _ hq with hc | hc
        · exact .inl (by simp [hc])
        · refine .inr fun x hx hx0 => ?_
          rcases hc x hx hx0 with ⟨h1, h2⟩ | ⟨k1, h1, h2⟩
          · rcases List.mem_cons.1 h2 with rfl | h2
            · right
              subst h1
              rw [hk0] at hq
              cases hq
              exact ⟨_, updK_at _ _ _, klt.irrefl _⟩
            · exact .inl ⟨h1, h2⟩
          · right
            obtain ⟨k2, h3, h4⟩ := key _ _ h1
            exact ⟨k2, h3, nklt_trans h4 h2⟩
    · simp only
      rw [updK_ne _ _ (Ne.symm hne)]; exact hsm
  · rw [if_neg hc]
    refine ⟨h.sound, h.base, h.simp, h.first, h.good, h.tin, fun q k hq => ?_, .inr hsm⟩
    rcases h.clos _ _ hq with hc' | hc'
    · exact .inl hc'
    · refine .inr fun x hx hx0 => ?_
      rcases hc' x hx hx0 with ⟨h1, h2⟩ | h1
      · rcases List.mem_cons.1 h2 with rfl | h2
        · right
          subst h1
          rw [hk0] at hq
          cases hq
          have hb : ¬ betB S.L x.to.toNat (extK k0 x) = true := fun hb => hc ⟨hx0, hb⟩
          unfold betB at hb
          cases hL : S.L x.to.toNat with
          | none => rw [hL] at hb; exact absurd rfl hb
          | some k1 =>
            rw [hL] at hb
            exact ⟨k1, rfl, fun hl => hb (decide_eq_true hl)⟩
        · exact .inl ⟨h1, h2⟩
      · exact .inr h1
/-- a state is taken -/
theorem StInv.take {m : MachL} {L0 L : TabK} {q cur : Nat} {t : List Nat} (h : StInv m L0 ⟨L, q :: t⟩ cur []) : StInv m L0 ⟨L, t⟩ q (arcsQ m q) := by
  refine ⟨h.sound, h.base, h.simp, h.first, h.good, fun p hp => h.tin p (by simp [hp]), fun p k hp => ?_, .inr (h.tin q (by simp))⟩
  by_cases e : p = q
  · exact .inr fun a ha _ => .inl ⟨e, e ▸ ha⟩
  · rcases h.clos p k hp with hc | hc
    · rcases List.mem_cons.1 hc with hc | hc
      · exact absurd hc e
      · exact .inl hc
    · refine .inr fun a ha h0 => ?_
      rcases hc a ha h0 with ⟨_, h2⟩ | h2
      · cases h2
      · exact .inr h2
theorem StInv.any {m : MachL} {L0 : TabK} {S : CSt} {cur cur' : Nat} (h : StInv m L0 S cur []) : StInv m L0 S cur' [] :=
  ⟨h.sound, h.base, h.simp, h.first, h.good, h.tin, fun q k hq => (h.clos q k hq).imp id fun hc a ha h0 => (hc a ha h0).imp (fun hx => by cases hx.2) id, .inl rfl⟩
/-- how many rounds may still come -/
def potK (C : List (Nat × KeyL)) (S : CSt) : Nat := S.t.length + lackK C S.L
theorem StInv.pot {m : MachL} (hv : Valid m) {L0 : TabK} {S : CSt} {cur : Nat} {a : ArcL} {ts : List ArcL} (h : StInv m L0 S cur (a :: ts)) (ha : a ∈ arcsQ m cur) : potK (candK m L0 m.states.length) (relA cur S a) ≤ potK (candK m L0 m.states.length) S := by
  have hsm : (S.L cur).isSome = true := by
    rcases h.cur with h | h
    · cases h
    · exact h
  obtain ⟨k0, hk0⟩ := Option.isSome_iff_exists.1 hsm
  have hg : getK S.L cur = k0 := by unfold getK; rw [hk0]; rfl
  unfold relA
  rw [hg]
  by_cases hc : a.inn = 0 ∧ betB S.L a.to.toNat (extK k0 a) = true
  · rw [if_pos hc]
    have h1 := lack_upd (h.simp.upd hv h.first hk0 ha hc.1 hc.2).2 hc.2
    unfold potK
    simp only [List.length_append, List.length_singleton]
    omega
  · rw [if_neg hc]; exact Nat.le_refl _
/-- the states that have a mark -/
def hasL (L : TabK) (n : Nat) : List Nat := (List.range n).filter fun q => (L q).isSome
theorem StInv.init {m : MachL} {L0 : TabK} (h : ∀ q k, L0 q = some k → q < m.states.length ∧ GoodW k.out ∧ 0 ≤ k.c) (cur : Nat) : StInv m L0 ⟨L0, hasL L0 m.states.length⟩ cur [] :=
  ⟨fun _ _ hq => .base hq, fun _ k hq => ⟨k, hq, klt.irrefl _⟩, SimpK.start m L0, fun q k hq => (h q k hq).1, h, fun q hq => by unfold hasL at hq; exact (List.mem_filter.1 hq).2,
    fun q k hq => .inl (by unfold hasL; exact List.mem_filter.2 ⟨List.mem_range.2 (h q k hq).1, by simp only at hq; rw [hq]; rfl⟩), .inl rfl⟩
theorem ext_min {m : MachL} {J : Nat → KeyL → Prop} {L0 : TabK} (h : ∀ q, MinK (J q) (L0 q)) {q : Nat} {o : Option KeyL} (hm : MinK (Ext m (fun q k => L0 q = some k) q) o) : MinK (Ext m J q) o := by
  refine ⟨fun k hk => ?_, fun k hk => ?_⟩
  · have h1 := hm.1 k hk
    clear hk hm
    induction h1 with
    | base hb => exact .base ((h _).1 _ hb)
    | arc _ ha h0 ih => exact .arc ih ha h0
  · have : ∃ k', Ext m (fun q k => L0 q = some k) q k' ∧ ¬ klt k k' := by
      clear hm
      induction hk with
      | base hb =>
        obtain ⟨k', h1, h2⟩ := (h _).2 _ hb
        exact ⟨k', .base h1, h2⟩
      | arc _ ha h0 ih =>
        obtain ⟨k', h1, h2⟩ := ih
        exact ⟨_, .arc h1 ha h0, ext_mono _ h2⟩
    obtain ⟨k', h1, h2⟩ := this
    obtain ⟨k2, h3, h4⟩ := hm.2 k' h1
    exact ⟨k2, h3, nklt_trans h4 h2⟩
end Go.Proofs.Ytikkmoleneioeaa

namespace Go.Proofs.Ytikkmoleneioeaa

/-- marks of ways from the start -/
inductive Mw (m : MachL) : List Int → Nat → KeyL → Prop
  | start : 0 ≤ m.start → Mw m [] m.start.toNat ⟨0, []⟩
  | arc {x : List Int} {q : Nat} {k : KeyL} {a : ArcL} : Mw m x q k → a ∈ arcsQ m q → Mw m (x ++ pre a.inn) a.to.toNat (extK k a)
theorem Mw.good {m : MachL} (hv : Valid m) {x : List Int} {q : Nat} {k : KeyL} (h : Mw m x q k) : q < m.states.length ∧ GoodW k.out ∧ 0 ≤ k.c := by
  induction h with
  | start h0 =>
    refine ⟨by have := hv.s1; omega, ?_, Int.le_refl 0⟩
    intro a ha
    cases ha
  | @arc x q k a _ ha ih =>
    have hva := (arcsQ_ok hv ha).2
    refine ⟨by have := hva.t0; have := hva.t1; omega, ext_good ih.2.1 hva.o0 hva.o1, ?_⟩
    have := hva.w0
    show 0 ≤ k.c + a.wt
    omega
def Tab (m : MachL) (x : List Int) (L : TabK) : Prop := ∀ q, MinK (Mw m x q) (L q)
theorem Tab.eq {m : MachL} (hv : Valid m) {x : List Int} {L L' : TabK} (h : Tab m x L) (h' : Tab m x L') : L = L' := by
  funext q
  exact (h q).eq (h' q) fun k hk => (hk.good hv).2.1
theorem Tab.good {m : MachL} (hv : Valid m) {x : List Int} {L : TabK} (h : Tab m x L) {q : Nat} {k : KeyL} (hk : L q = some k) : q < m.states.length ∧ GoodW k.out ∧ 0 ≤ k.c := ((h q).1 k hk).good hv
theorem mw_eps {m : MachL} {x : List Int} {q : Nat} {k : KeyL} {a : ArcL} (h : Mw m x q k) (ha : a ∈ arcsQ m q) (h0 : a.inn = 0) : Mw m x a.to.toNat (extK k a) := by
  have := h.arc ha
  rw [h0] at this
  simpa [pre] using this
def I0 (m : MachL) (q : Nat) (k : KeyL) : Prop := 0 ≤ m.start ∧ q = m.start.toNat ∧ k = ⟨0, []⟩
theorem tab_begin {m : MachL} {L : TabK} (h : ∀ q, MinK (Ext m (I0 m) q) (L q)) : Tab m [] L := by
  intro q
  refine (h q).congr fun k => ⟨fun he => ?_, fun he => ?_⟩
  · induction he with
    | base hb => obtain ⟨h0, rfl, rfl⟩ := hb; exact .start h0
    | arc _ ha h0 ih => exact mw_eps ih ha h0
  · generalize hx : ([] : List Int) = x at he
    induction he with
    | start h0 => exact .base ⟨h0, rfl, rfl⟩
    | @arc x q k a _ ha ih =>
      obtain ⟨h1, h2⟩ := List.append_eq_nil_iff.1 hx.symm
      have h0 : a.inn = 0 := by
        unfold pre at h2
        by_cases e : a.inn = 0
        · exact e
        · rw [if_neg e] at h2; cases h2
      exact .arc (ih h1.symm) ha h0
/-- a label is fed -/
def JF (m : MachL) (L : TabK) (l : Int) (q : Nat) (k : KeyL) : Prop := ∃ p k0 a, L p = some k0 ∧ a ∈ arcsQ m p ∧ a.inn = l ∧ q = a.to.toNat ∧ k = extK k0 a
theorem tab_feed {m : MachL} {x : List Int} {L L' : TabK} {l : Int} (hl : l ≠ 0) (hT : Tab m x L) (h : ∀ q, MinK (Ext m (JF m L l) q) (L' q)) : Tab m (x ++ [l]) L' := by
  have hs : ∀ q k, Ext m (JF m L l) q k → Mw m (x ++ [l]) q k := fun q k he => by
    induction he with
    | base hb =>
      obtain ⟨p, k0, a, h1, h2, h3, rfl, rfl⟩ := hb
      have := ((hT p).1 k0 h1).arc h2
      rw [h3] at this
      simpa [pre, hl] using this
    | arc _ ha h0 ih => exact mw_eps ih ha h0
  have hc : ∀ z q k, Mw m z q k → z = x ++ [l] → ∃ k', Ext m (JF m L l) q k' ∧ ¬ klt k k' := fun z q k he => by
    induction he with
    | start h0 => intro hz; simp at hz
    | @arc z q k a hk ha ih =>
      intro hz
      by_cases e : a.inn = 0
      · have hz' : z = x ++ [l] := by rw [e] at hz; simpa [pre] using hz
        obtain ⟨k', h1, h2⟩ := ih hz'
        exact ⟨_, .arc h1 ha e, ext_mono a h2⟩
      · have hp : pre a.inn = [a.inn] := by unfold pre; rw [if_neg e]
        rw [hp] at hz
        obtain ⟨h1, h2⟩ := List.append_inj' hz rfl
        have h3 : a.inn = l := by simpa using h2
        subst h1
        obtain ⟨k0, h4, h5⟩ := (hT q).2 k hk
        exact ⟨_, .base ⟨q, k0, a, h4, ha, h3, rfl, rfl⟩, ext_mono a h5⟩
  intro q
  refine ⟨fun k hk => hs q k ((h q).1 k hk), fun k hk => ?_⟩
  obtain ⟨k1, h1, h2⟩ := hc _ q k hk rfl
  obtain ⟨k2, h3, h4⟩ := (h q).2 k1 h1
  exact ⟨k2, h3, nklt_trans h4 h2⟩
/-- a mark is no longer and no dearer than this -/
def KB (A : Nat) (WW : Int) (k : KeyL) : Prop := k.out.length ≤ A ∧ k.c ≤ (A : Int) * WW
theorem KB.ext {A : Nat} {WW : Int} {k : KeyL} (h : KB A WW k) {a : ArcL} (hw : a.wt ≤ WW) : KB (A + 1) WW (extK k a) := by
  obtain ⟨h1, h2⟩ := h
  refine ⟨?_, ?_⟩
  · unfold extK pre
    by_cases e : a.out = 0
    · simp only [e, if_true, List.append_nil]; omega
    · simp only [e, if_false, List.length_append, List.length_singleton]; omega
  · show k.c + a.wt ≤ ((A + 1 : Nat) : Int) * WW
    have : ((A + 1 : Nat) : Int) * WW = (A : Int) * WW + WW := by rw [Int.natCast_add, Int.add_mul]; simp
    omega
theorem KB.mono {A B : Nat} {WW : Int} {k : KeyL} (h : KB A WW k) (hAB : A ≤ B) (h0 : 0 ≤ WW) : KB B WW k :=
  ⟨Nat.le_trans h.1 hAB, Int.le_trans h.2 (Int.mul_le_mul_of_nonneg_right (by omega) h0)⟩
theorem KB.fold {m : MachL} {WW : Int} (hw : ∀ q, ∀ a ∈ arcsQ m q, a.wt ≤ WW) : ∀ (l : List ArcL) (q : Nat) (A : Nat) (k : KeyL), EpsP m q l → KB A WW k → KB (A + l.length) WW (l.foldl extK k)
  | [], _, _, _, _, h => h
  | a :: l, q, A, k, ⟨h1, _, h3⟩, h => by
    have := KB.fold hw l _ (A + 1) (extK k a) h3 (h.ext (hw q a h1))
    rw [List.length_cons, show A + (l.length + 1) = A + 1 + l.length by omega]
    exact this
theorem min_bound {m : MachL} (hv : Valid m) {WW : Int} (h0 : 0 ≤ WW) (hw : ∀ q, ∀ a ∈ arcsQ m q, a.wt ≤ WW) {I : Nat → KeyL → Prop} {A : Nat} (hI : ∀ q k, I q k → q < m.states.length ∧ KB A WW k) {q : Nat} {o : Option KeyL} {k : KeyL} (hm : MinK (Ext m I q) o) (hk : o = some k) : KB (A + m.states.length) WW k := by
  obtain ⟨q0, k0, l, h1, h2, h3, h4⟩ := ext_path (hm.1 k hk)
  obtain ⟨hq0, hb0⟩ := hI q0 k0 h1
  obtain ⟨l', g1, g2, g3, g4⟩ := eps_short hv l.length l q0 k0 (Nat.le_refl _) hq0 h2
  have he : Ext m I q (l'.foldl extK k0) := by rw [← h3, ← g2]; exact path_ext l' _ _ (.base h1) g1
  obtain ⟨k1, e1, e2⟩ := hm.2 _ he
  rw [hk] at e1
  obtain rfl := Option.some.inj e1
  obtain ⟨s1, s2⟩ := klt_same (a := k) (b := l'.foldl extK k0) (by rw [h4]; exact g3) e2
  have hb := (KB.fold hw l' q0 A k0 g1 hb0).mono (B := A + m.states.length) (by omega) h0
  exact ⟨by rw [s2]; exact hb.1, by rw [s1]; exact hb.2⟩
/-- what may come out: a word at a cost -/
theorem accQ {m : MachL} {q : Nat} {a : ArcL} {u v : List Int} {c : Int} (ha : a ∈ arcsQ m q) (h : AccW m a.to.toNat u v c) : AccW m q (pre a.inn ++ u) (pre a.out ++ v) (a.wt + c) := by
  unfold arcsQ at ha
  cases hs : m.states[q]? with
  | none => rw [hs] at ha; cases ha
  | some s => rw [hs] at ha; exact AccW.arc hs ha h
theorem mw_acc {m : MachL} {x : List Int} {q : Nat} {k : KeyL} (h : Mw m x q k) : ∀ u v c, AccW m q u v c → 0 ≤ m.start ∧ AccW m m.start.toNat (x ++ u) (k.out ++ v) (k.c + c) := by
  induction h with
  | start h0 => intro u v c h; exact ⟨h0, by simpa using h⟩
  | @arc x q k a _ ha ih =>
    intro u v c h
    have := ih _ _ _ (accQ ha h)
    simp only [extK, List.append_assoc, Int.add_assoc]
    exact this
theorem acc_mw {m : MachL} {p : Nat} {u v : List Int} {c : Int} (h : AccW m p u v c) : ∀ x k, Mw m x p k → ∃ q k', Mw m (x ++ u) q k' ∧ finQ m q ≠ INF ∧ k'.out = k.out ++ v ∧ k'.c + finQ m q = k.c + c := by
  induction h with
  | @fin q s hs hf =>
    intro x k hk
    have e : finQ m q = s.final := by unfold finQ; rw [hs]; rfl
    exact ⟨q, k, by simpa using hk, by rw [e]; exact hf, by simp, by rw [e]⟩
  | @arc q s a u v c hs ha _ ih =>
    intro x k hk
    have hm : a ∈ arcsQ m q := by unfold arcsQ; rw [hs]; exact ha
    obtain ⟨p, k', h1, h2, h3, h4⟩ := ih _ _ (hk.arc hm)
    refine ⟨p, k', by rw [← List.append_assoc]; exact h1, h2, ?_, ?_⟩
    · rw [h3]; simp [extK]
    · rw [h4]; simp only [extK]; omega
def EndK (m : MachL) (L : TabK) (k : KeyL) : Prop := ∃ q k0, L q = some k0 ∧ finQ m q ≠ INF ∧ k = ⟨k0.c + finQ m q, k0.out⟩
theorem finQ_ok {m : MachL} (hv : Valid m) {q : Nat} (h : finQ m q ≠ INF) : 0 ≤ finQ m q ∧ q < m.states.length := by
  unfold finQ at *
  cases hs : m.states[q]? with
  | none => rw [hs] at h; exact absurd rfl h
  | some s =>
    rw [hs] at h
    have h2 := (hv.st s (List.mem_of_getElem? hs)).1
    simp only [Option.map_some, Option.getD_some] at h ⊢
    unfold ValidFinal at h2
    have : INF = 1000000001 := rfl
    exact ⟨by omega, (List.getElem?_eq_some_iff.1 hs).1⟩
/-- what comes out is the least word that may come out -/
theorem end_tot {m : MachL} {x : List Int} {L : TabK} (hT : Tab m x L) {o : Option KeyL} (h : MinK (EndK m L) o) : MinK (fun k => Tot m x k.out false k.c) o := by
  refine ⟨fun k hk => ?_, fun k hk => ?_⟩
  · obtain ⟨q, k0, h1, h2, rfl⟩ := h.1 k hk
    have hf : AccW m q [] [] (finQ m q) := by
      unfold finQ at *
      cases hs : m.states[q]? with
      | none => rw [hs] at h2; exact absurd rfl h2
      | some s => rw [hs] at h2; exact AccW.fin hs h2
    have := mw_acc ((hT q).1 k0 h1) _ _ _ hf
    rw [tot_accW]
    simpa using this
  · obtain ⟨h0, ha⟩ := tot_accW.1 hk
    obtain ⟨q, k', h1, h2, h3, h4⟩ := acc_mw ha [] ⟨0, []⟩ (.start h0)
    simp only [List.nil_append, Int.zero_add] at h1 h3 h4
    obtain ⟨k0, g1, g2⟩ := (hT q).2 k' h1
    obtain ⟨k1, e1, e2⟩ := h.2 ⟨k0.c + finQ m q, k0.out⟩ ⟨q, k0, g1, h2, rfl⟩
    refine ⟨k1, e1, nklt_trans e2 ?_⟩
    obtain ⟨kc, ko⟩ := k
    unfold klt at g2 ⊢
    simp only at *
    subst h3
    rw [← h4]
    omega
theorem acc_word {m : MachL} {x : List Int} {p : Pl} {c : Int} (h : Acc m x [] true p c) : ∃ y, AccW m p.1 (x.drop p.2.1) y c := by
  induction h with
  | @fin p he hf =>
    unfold endsP at he
    simp only [Bool.true_or, Bool.and_true, beq_iff_eq] at he
    rw [he, List.drop_length]
    unfold finalP at *
    cases hs : m.states[p.1]? with
    | none => rw [hs] at hf; exact absurd rfl hf
    | some s =>
      rw [hs] at hf
      exact ⟨[], AccW.fin hs hf⟩
  | @arc p a q c ha hn _ ih =>
    obtain ⟨s, hs, _, has⟩ := arcsP_mem ha
    unfold nextP at hn
    simp only [Bool.true_or, Bool.and_true, if_true] at hn
    split at hn
    · rename_i hh
      cases hn
      obtain ⟨y, hy⟩ := ih
      rw [drop_step hh]
      exact ⟨_, AccW.arc hs has hy⟩
    · cases hn
theorem tot_some {m : MachL} {x : List Int} {c : Int} (h : Tot m x [] true c) : ∃ y, Tot m x y false c := by
  obtain ⟨h0, h⟩ := tot_acc.1 h
  obtain ⟨y, hy⟩ := acc_word h
  exact ⟨y, tot_accW.2 ⟨h0, by simpa using hy⟩⟩
/-- of two words of one length the lower one is lower at the first place where they differ -/
theorem codeI_app (p s : List Int) : codeI (p ++ s) = s.foldl (fun a b => a * 1001 + b) (codeI p) := by simp [codeI]
theorem foldI_lt : ∀ (s t : List Int), s.length = t.length → GoodW s → GoodW t → ∀ a b : Int, a < b → s.foldl (fun a b => a * 1001 + b) a < t.foldl (fun a b => a * 1001 + b) b
  | [], [], _, _, _, a, b, h => h
  | [], y :: t, h, _, _, _, _, _ => by simp at h
  | x :: s, [], h, _, _, _, _, _ => by simp at h
  | x :: s, y :: t, h, hs, ht, a, b, hab => by
    have h1 := hs x (by simp); have h2 := ht y (by simp)
    exact foldI_lt s t (by simpa using h) (fun z hz => hs z (by simp [hz])) (fun z hz => ht z (by simp [hz])) _ _ (by show a * 1001 + x < b * 1001 + y; omega)
theorem codeI_first {p s t : List Int} {a b : Int} (h : s.length = t.length) (hs : GoodW (p ++ a :: s)) (ht : GoodW (p ++ b :: t)) (hab : a < b) : codeI (p ++ a :: s) < codeI (p ++ b :: t) := by
  rw [codeI_app, codeI_app]
  exact foldI_lt s t h (fun z hz => hs z (by simp [hz])) (fun z hz => ht z (by simp [hz])) _ _ (by show codeI p * 1001 + a < codeI p * 1001 + b; omega)
end Go.Proofs.Ytikkmoleneioeaa
