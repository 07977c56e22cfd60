/- stream (plain): tables of marks, what is fed, and what comes out. -/
import Derived.Test.YtikkmoleneioeaaStreamPlain
namespace Go.Proofs.Ytikkmoleneioeaa

/-- marks of ways from the start -/
inductive Mw (m : MachL) : List Int → Nat → KeyL → Prop
  | start : 0 ≤ m.start → Mw m [] m.start.toNat ⟨0, []⟩
  | arc {x : List Int} {q : Nat} {k : KeyL} {a : ArcL} : Mw m x q k → a ∈ arcsQ m q → Mw m (x ++ pre a.inn) a.to.toNat (extK k a)
theorem Mw.good {m : MachL} (hv : Valid m) {x : List Int} {q : Nat} {k : KeyL} (h : Mw m x q k) : q < m.states.length ∧ GoodW k.out ∧ 0 ≤ k.c := by
  induction h with
  | start h0 =>
    refine ⟨by have := hv.s1; omega, ?_, Int.le_refl 0⟩
    intro a ha
    cases ha
  | @arc x q k a _ ha ih =>
    have hva := (arcsQ_ok hv ha).2
    refine ⟨by have := hva.t0; have := hva.t1; omega, ext_good ih.2.1 hva.o0 hva.o1, ?_⟩
    have := hva.w0
    show 0 ≤ k.c + a.wt
    omega
def Tab (m : MachL) (x : List Int) (L : TabK) : Prop := ∀ q, MinK (Mw m x q) (L q)
theorem Tab.eq {m : MachL} (hv : Valid m) {x : List Int} {L L' : TabK} (h : Tab m x L) (h' : Tab m x L') : L = L' := by
  funext q
  exact (h q).eq (h' q) fun k hk => (hk.good hv).2.1
theorem Tab.good {m : MachL} (hv : Valid m) {x : List Int} {L : TabK} (h : Tab m x L) {q : Nat} {k : KeyL} (hk : L q = some k) : q < m.states.length ∧ GoodW k.out ∧ 0 ≤ k.c := ((h q).1 k hk).good hv
theorem mw_eps {m : MachL} {x : List Int} {q : Nat} {k : KeyL} {a : ArcL} (h : Mw m x q k) (ha : a ∈ arcsQ m q) (h0 : a.inn = 0) : Mw m x a.to.toNat (extK k a) := by
  have := h.arc ha
  rw [h0] at this
  simpa [pre] using this
def I0 (m : MachL) (q : Nat) (k : KeyL) : Prop := 0 ≤ m.start ∧ q = m.start.toNat ∧ k = ⟨0, []⟩
theorem tab_begin {m : MachL} {L : TabK} (h : ∀ q, MinK (Ext m (I0 m) q) (L q)) : Tab m [] L := by
  intro q
  refine (h q).congr fun k => ⟨fun he => ?_, fun he => ?_⟩
  · induction he with
    | base hb => obtain ⟨h0, rfl, rfl⟩ := hb; exact .start h0
    | arc _ ha h0 ih => exact mw_eps ih ha h0
  · generalize hx : ([] : List Int) = x at he
    induction he with
    | start h0 => exact .base ⟨h0, rfl, rfl⟩
    | @arc x q k a _ ha ih =>
      obtain ⟨h1, h2⟩ := List.append_eq_nil_iff.1 hx.symm
      have h0 : a.inn = 0 := by
        unfold pre at h2
        by_cases e : a.inn = 0
        · exact e
        · rw [if_neg e] at h2; cases h2
      exact .arc (ih h1.symm) ha h0
/-- a label is fed -/
def JF (m : MachL) (L : TabK) (l : Int) (q : Nat) (k : KeyL) : Prop := ∃ p k0 a, L p = some k0 ∧ a ∈ arcsQ m p ∧ a.inn = l ∧ q = a.to.toNat ∧ k = extK k0 a
theorem tab_feed {m : MachL} {x : List Int} {L L' : TabK} {l : Int} (hl : l ≠ 0) (hT : Tab m x L) (h : ∀ q, MinK (Ext m (JF m L l) q) (L' q)) : Tab m (x ++ [l]) L' := by
  have hs : ∀ q k, Ext m (JF m L l) q k → Mw m (x ++ [l]) q k := fun q k he => by
    induction he with
    | base hb =>
      obtain ⟨p, k0, a, h1, h2, h3, rfl, rfl⟩ := hb
      have := ((hT p).1 k0 h1).arc h2
      rw [h3] at this
      simpa [pre, hl] using this
    | arc _ ha h0 ih => exact mw_eps ih ha h0
  have hc : ∀ z q k, Mw m z q k → z = x ++ [l] → ∃ k', Ext m (JF m L l) q k' ∧ ¬ klt k k' := fun z q k he => by
    induction he with
    | start h0 => intro hz; simp at hz
    | @arc z q k a hk ha ih =>
      intro hz
      by_cases e : a.inn = 0
      · have hz' : z = x ++ [l] := by rw [e] at hz; simpa [pre] using hz
        obtain ⟨k', h1, h2⟩ := ih hz'
        exact ⟨_, .arc h1 ha e, ext_mono a h2⟩
      · have hp : pre a.inn = [a.inn] := by unfold pre; rw [if_neg e]
        rw [hp] at hz
        obtain ⟨h1, h2⟩ := List.append_inj' hz rfl
        have h3 : a.inn = l := by simpa using h2
        subst h1
        obtain ⟨k0, h4, h5⟩ := (hT q).2 k hk
        exact ⟨_, .base ⟨q, k0, a, h4, ha, h3, rfl, rfl⟩, ext_mono a h5⟩
  intro q
  refine ⟨fun k hk => hs q k ((h q).1 k hk), fun k hk => ?_⟩
  obtain ⟨k1, h1, h2⟩ := hc _ q k hk rfl
  obtain ⟨k2, h3, h4⟩ := (h q).2 k1 h1
  exact ⟨k2, h3, nklt_trans h4 h2⟩
/-- a mark is no longer and no dearer than this -/
def KB (A : Nat) (WW : Int) (k : KeyL) : Prop := k.out.length ≤ A ∧ k.c ≤ (A : Int) * WW
theorem KB.ext {A : Nat} {WW : Int} {k : KeyL} (h : KB A WW k) {a : ArcL} (hw : a.wt ≤ WW) : KB (A + 1) WW (extK k a) := by
  obtain ⟨h1, h2⟩ := h
  refine ⟨?_, ?_⟩
  · unfold extK pre
    by_cases e : a.out = 0
    · simp only [e, if_true, List.append_nil]; omega
    · simp only [e, if_false, List.length_append, List.length_singleton]; omega
  · show k.c + a.wt ≤ ((A + 1 : Nat) : Int) * WW
    have : ((A + 1 : Nat) : Int) * WW = (A : Int) * WW + WW := by rw [Int.natCast_add, Int.add_mul]; simp
    omega
theorem KB.mono {A B : Nat} {WW : Int} {k : KeyL} (h : KB A WW k) (hAB : A ≤ B) (h0 : 0 ≤ WW) : KB B WW k :=
  ⟨Nat.le_trans h.1 hAB, Int.le_trans h.2 (Int.mul_le_mul_of_nonneg_right (by omega) h0)⟩
theorem KB.fold {m : MachL} {WW : Int} (hw : ∀ q, ∀ a ∈ arcsQ m q, a.wt ≤ WW) : ∀ (l : List ArcL) (q : Nat) (A : Nat) (k : KeyL), EpsP m q l → KB A WW k → KB (A + l.length) WW (l.foldl extK k)
  | [], _, _, _, _, h => h
  | a :: l, q, A, k, ⟨h1, _, h3⟩, h => by
    have := KB.fold hw l _ (A + 1) (extK k a) h3 (h.ext (hw q a h1))
    rw [List.length_cons, show A + (l.length + 1) = A + 1 + l.length by omega]
    exact this
theorem min_bound {m : MachL} (hv : Valid m) {WW : Int} (h0 : 0 ≤ WW) (hw : ∀ q, ∀ a ∈ arcsQ m q, a.wt ≤ WW) {I : Nat → KeyL → Prop} {A : Nat} (hI : ∀ q k, I q k → q < m.states.length ∧ KB A WW k) {q : Nat} {o : Option KeyL} {k : KeyL} (hm : MinK (Ext m I q) o) (hk : o = some k) : KB (A + m.states.length) WW k := by
  obtain ⟨q0, k0, l, h1, h2, h3, h4⟩ := ext_path (hm.1 k hk)
  obtain ⟨hq0, hb0⟩ := hI q0 k0 h1
  obtain ⟨l', g1, g2, g3, g4⟩ := eps_short hv l.length l q0 k0 (Nat.le_refl _) hq0 h2
  have he : Ext m I q (l'.foldl extK k0) := by rw [← h3, ← g2]; exact path_ext l' _ _ (.base h1) g1
  obtain ⟨k1, e1, e2⟩ := hm.2 _ he
  rw [hk] at e1
  obtain rfl := Option.some.inj e1
  obtain ⟨s1, s2⟩ := klt_same (a := k) (b := l'.foldl extK k0) (by rw [h4]; exact g3) e2
  have hb := (KB.fold hw l' q0 A k0 g1 hb0).mono (B := A + m.states.length) (by omega) h0
  exact ⟨by rw [s2]; exact hb.1, by rw [s1]; exact hb.2⟩
/-- what may come out: a word at a cost -/
theorem accQ {m : MachL} {q : Nat} {a : ArcL} {u v : List Int} {c : Int} (ha : a ∈ arcsQ m q) (h : AccW m a.to.toNat u v c) : AccW m q (pre a.inn ++ u) (pre a.out ++ v) (a.wt + c) := by
  unfold arcsQ at ha
  cases hs : m.states[q]? with
  | none => rw [hs] at ha; cases ha
  | some s => rw [hs] at ha; exact AccW.arc hs ha h
theorem mw_acc {m : MachL} {x : List Int} {q : Nat} {k : KeyL} (h : Mw m x q k) : ∀ u v c, AccW m q u v c → 0 ≤ m.start ∧ AccW m m.start.toNat (x ++ u) (k.out ++ v) (k.c + c) := by
  induction h with
  | start h0 => intro u v c h; exact ⟨h0, by simpa using h⟩
  | @arc x q k a _ ha ih =>
    intro u v c h
    have := ih _ _ _ (accQ ha h)
    simp only [extK, List.append_assoc, Int.add_assoc]
    exact this
theorem acc_mw {m : MachL} {p : Nat} {u v : List Int} {c : Int} (h : AccW m p u v c) : ∀ x k, Mw m x p k → ∃ q k', Mw m (x ++ u) q k' ∧ finQ m q ≠ INF ∧ k'.out = k.out ++ v ∧ k'.c + finQ m q = k.c + c := by
  induction h with
  | @fin q s hs hf =>
    intro x k hk
    have e : finQ m q = s.final := by unfold finQ; rw [hs]; rfl
    exact ⟨q, k, by simpa using hk, by rw [e]; exact hf, by simp, by rw [e]⟩
  | @arc q s a u v c hs ha _ ih =>
    intro x k hk
    have hm : a ∈ arcsQ m q := by unfold arcsQ; rw [hs]; exact ha
    obtain ⟨p, k', h1, h2, h3, h4⟩ := ih _ _ (hk.arc hm)
    refine ⟨p, k', by rw [← List.append_assoc]; exact h1, h2, ?_, ?_⟩
    · rw [h3]; simp [extK]
    · rw [h4]; simp only [extK]; omega
def EndK (m : MachL) (L : TabK) (k : KeyL) : Prop := ∃ q k0, L q = some k0 ∧ finQ m q ≠ INF ∧ k = ⟨k0.c + finQ m q, k0.out⟩
theorem finQ_ok {m : MachL} (hv : Valid m) {q : Nat} (h : finQ m q ≠ INF) : 0 ≤ finQ m q ∧ q < m.states.length := by
  unfold finQ at *
  cases hs : m.states[q]? with
  | none => rw [hs] at h; exact absurd rfl h
  | some s =>
    rw [hs] at h
    have h2 := (hv.st s (List.mem_of_getElem? hs)).1
    simp only [Option.map_some, Option.getD_some] at h ⊢
    unfold ValidFinal at h2
    have : INF = 1000000001 := rfl
    exact ⟨by omega, (List.getElem?_eq_some_iff.1 hs).1⟩
/-- what comes out is the least word that may come out -/
theorem end_tot {m : MachL} {x : List Int} {L : TabK} (hT : Tab m x L) {o : Option KeyL} (h : MinK (EndK m L) o) : MinK (fun k => Tot m x k.out false k.c) o := by
  refine ⟨fun k hk => ?_, fun k hk => ?_⟩
  · obtain ⟨q, k0, h1, h2, rfl⟩ := h.1 k hk
    have hf : AccW m q [] [] (finQ m q) := by
      unfold finQ at *
      cases hs : m.states[q]? with
      | none => rw [hs] at h2; exact absurd rfl h2
      | some s => rw [hs] at h2; exact AccW.fin hs h2
    have := mw_acc ((hT q).1 k0 h1) _ _ _ hf
    rw [tot_accW]
    simpa using this
  · obtain ⟨h0, ha⟩ := tot_accW.1 hk
    obtain ⟨q, k', h1, h2, h3, h4⟩ := acc_mw ha [] ⟨0, []⟩ (.start h0)
    simp only [List.nil_append, Int.zero_add] at h1 h3 h4
    obtain ⟨k0, g1, g2⟩ := (hT q).2 k' h1
    obtain ⟨k1, e1, e2⟩ := h.2 ⟨k0.c + finQ m q, k0.out⟩ ⟨q, k0, g1, h2, rfl⟩
    refine ⟨k1, e1, nklt_trans e2 ?_⟩
    obtain ⟨kc, ko⟩ := k
    unfold klt at g2 ⊢
    simp only at *
    subst h3
    rw [← h4]
    omega
theorem acc_word {m : MachL} {x : List Int} {p : Pl} {c : Int} (h : Acc m x [] true p c) : ∃ y, AccW m p.1 (x.drop p.2.1) y c := by
  induction h with
  | @fin p he hf =>
    unfold endsP at he
    simp only [Bool.true_or, Bool.and_true, beq_iff_eq] at he
    rw [he, List.drop_length]
    unfold finalP at *
    cases hs : m.states[p.1]? with
    | none => rw [hs] at hf; exact absurd rfl hf
    | some s =>
      rw [hs] at hf
      exact ⟨[], AccW.fin hs hf⟩
  | @arc p a q c ha hn _ ih =>
    obtain ⟨s, hs, _, has⟩ := arcsP_mem ha
    unfold nextP at hn
    simp only [Bool.true_or, Bool.and_true, if_true] at hn
    split at hn
    · rename_i hh
      cases hn
      obtain ⟨y, hy⟩ := ih
      rw [drop_step hh]
      exact ⟨_, AccW.arc hs has hy⟩
    · cases hn
theorem tot_some {m : MachL} {x : List Int} {c : Int} (h : Tot m x [] true c) : ∃ y, Tot m x y false c := by
  obtain ⟨h0, h⟩ := tot_acc.1 h
  obtain ⟨y, hy⟩ := acc_word h
  exact ⟨y, tot_accW.2 ⟨h0, by simpa using hy⟩⟩
/-- of two words of one length the lower one is lower at the first place where they differ -/
theorem codeI_app (p s : List Int) : codeI (p ++ s) = s.foldl (fun a b => a * 1001 + b) (codeI p) := by simp [codeI]
theorem foldI_lt : ∀ (s t : List Int), s.length = t.length → GoodW s → GoodW t → ∀ a b : Int, a < b → s.foldl (fun a b => a * 1001 + b) a < t.foldl (fun a b => a * 1001 + b) b
  | [], [], _, _, _, a, b, h => h
  | [], y :: t, h, _, _, _, _, _ => by simp at h
  | x :: s, [], h, _, _, _, _, _ => by simp at h
  | x :: s, y :: t, h, hs, ht, a, b, hab => by
    have h1 := hs x (by simp); have h2 := ht y (by simp)
    exact foldI_lt s t (by simpa using h) (fun z hz => hs z (by simp [hz])) (fun z hz => ht z (by simp [hz])) _ _ (by show a * 1001 + x < b * 1001 + y; omega)
theorem codeI_first {p s t : List Int} {a b : Int} (h : s.length = t.length) (hs : GoodW (p ++ a :: s)) (ht : GoodW (p ++ b :: t)) (hab : a < b) : codeI (p ++ a :: s) < codeI (p ++ b :: t) := by
  rw [codeI_app, codeI_app]
  exact foldI_lt s t h (fun z hz => hs z (by simp [hz])) (fun z hz => ht z (by simp [hz])) _ _ (by show codeI p * 1001 + a < codeI p * 1001 + b; omega)
end Go.Proofs.Ytikkmoleneioeaa
