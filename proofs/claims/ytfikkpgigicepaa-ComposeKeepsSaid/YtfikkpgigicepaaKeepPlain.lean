/- together: the least over two machines at once (plain). -/
import Derived.Test.YtfikkpgigicepaaCompUse
namespace Go.Proofs.Ytfikkpgigicepaa

structure SpotL where
  a : Nat
  b : Nat
  i : Nat
  j : Nat
  deriving DecidableEq
def overL (l : List Int) (k : Nat) (lab : Int) : Option Nat := if lab = 0 then some k else if l[k]? = some lab then some (k + 1) else none
def stepXY (x : ArcL) (i : Nat) (s : SpotL) (w : List Int) (y : ArcL) : List (SpotL × Int) :=
  match overL w s.j y.out with
  | none => []
  | some j => if y.inn = x.out then [(⟨x.to.toNat, y.to.toNat, i, j⟩, x.wt + y.wt)] else []
def stepX (ys : List ArcL) (s : SpotL) (v w : List Int) (x : ArcL) : List (SpotL × Int) :=
  match overL v s.i x.inn with
  | none => []
  | some i => if x.out = 0 then [(⟨x.to.toNat, s.b, i, s.j⟩, x.wt)] else ys.flatMap (stepXY x i s w)
def stepY (s : SpotL) (w : List Int) (y : ArcL) : List (SpotL × Int) :=
  match overL w s.j y.out with
  | none => []
  | some j => if y.inn = 0 then [(⟨s.a, y.to.toNat, s.i, j⟩, y.wt)] else []
def stepsL (xs ys : List ArcL) (s : SpotL) (v w : List Int) : List (SpotL × Int) := xs.flatMap (stepX ys s v w) ++ ys.flatMap (stepY s w)

theorem over_drop {l : List Int} {k i : Nat} {lab : Int} (h : overL l k lab = some i) (hk : k ≤ l.length) : l.drop k = pre lab ++ l.drop i ∧ i ≤ l.length := by
  unfold overL at h
  unfold pre
  split at h
  · rename_i h0
    cases h
    rw [if_pos h0]; exact ⟨rfl, hk⟩
  · rename_i h0
    rw [if_neg h0]
    split at h
    · rename_i h1
      cases h
      obtain ⟨hl, e⟩ := List.getElem?_eq_some_iff.1 h1
      rw [List.drop_eq_getElem_cons hl, e]
      exact ⟨rfl, by omega⟩
    · cases h
theorem over_of {l : List Int} {k : Nat} {lab : Int} {x : List Int} (h : pre lab ++ x = l.drop k) (hk : k ≤ l.length) : ∃ i, overL l k lab = some i ∧ x = l.drop i ∧ i ≤ l.length := by
  unfold overL
  unfold pre at h
  by_cases h0 : lab = 0
  · rw [if_pos h0] at h ⊢
    exact ⟨k, rfl, h, hk⟩
  · rw [if_neg h0] at h ⊢
    have hl : k < l.length := by
      rcases Nat.lt_or_ge k l.length with h1 | h1
      · exact h1
      · rw [List.drop_eq_nil_of_le h1] at h; cases h
    rw [List.drop_eq_getElem_cons hl] at h
    injection h with h1 h2
    rw [List.getElem?_eq_getElem hl, ← h1, if_pos rfl]
    exact ⟨k + 1, rfl, h2, hl⟩

section
variable {a b : MachL} {v w : List Int}
def stepsAt (a b : MachL) (v w : List Int) (s : SpotL) : List (SpotL × Int) := stepsL (arcsQ a s.a) (arcsQ b s.b) s v w
/-- what is still to be paid from a spot on -/
def GoOn (a b : MachL) (v w : List Int) (s : SpotL) (d : Int) : Prop := ∃ y d1 d2, AccW a s.a (v.drop s.i) y d1 ∧ AccW b s.b y (w.drop s.j) d2 ∧ d = d1 + d2
theorem mem_steps {s : SpotL} {p : SpotL × Int} : p ∈ stepsAt a b v w s ↔
    (∃ x ∈ arcsQ a s.a, ∃ i, overL v s.i x.inn = some i ∧ x.out = 0 ∧ p = (⟨x.to.toNat, s.b, i, s.j⟩, x.wt)) ∨
    (∃ x ∈ arcsQ a s.a, ∃ y ∈ arcsQ b s.b, ∃ i j, overL v s.i x.inn = some i ∧ overL w s.j y.out = some j ∧ x.out ≠ 0 ∧ y.inn = x.out ∧ p = (⟨x.to.toNat, y.to.toNat, i, j⟩, x.wt + y.wt)) ∨
    (∃ y ∈ arcsQ b s.b, ∃ j, overL w s.j y.out = some j ∧ y.inn = 0 ∧ p = (⟨s.a, y.to.toNat, s.i, j⟩, y.wt)) := by
  unfold stepsAt stepsL
  rw [List.mem_append, List.mem_flatMap, List.mem_flatMap]
  constructor
  · rintro (⟨x, hx, h⟩ | ⟨y, hy, h⟩)
    · unfold stepX at h
      split at h
      · cases h
      · rename_i i hi
        split at h
        · rename_i h0
          simp at h
          exact .inl ⟨x, hx, i, hi, h0, h⟩
        · rename_i h0
          obtain ⟨y, hy, h⟩ := List.mem_flatMap.1 h
          unfold stepXY at h
          split at h
          · cases h
          · rename_i j hj
            split at h
            · rename_i h1
              simp at h
              exact .inr (.inl ⟨x, hx, y, hy, i, j, hi, hj, h0, h1, h⟩)
            · cases h
    · unfold stepY at h
      split at h
      · cases h
      · rename_i j hj
        split at h
        · rename_i h1
          simp at h
          exact .inr (.inr ⟨y, hy, j, hj, h1, h⟩)
        · cases h
  · rintro (⟨x, hx, i, hi, h0, rfl⟩ | ⟨x, hx, y, hy, i, j, hi, hj, h0, h1, rfl⟩ | ⟨y, hy, j, hj, h1, rfl⟩)
    · exact .inl ⟨x, hx, by unfold stepX; rw [hi]; simp [h0]⟩
    · refine .inl ⟨x, hx, ?_⟩
      unfold stepX
      rw [hi]
      simp only [h0, if_false]
      exact List.mem_flatMap.2 ⟨y, hy, by unfold stepXY; rw [hj]; simp [h1]⟩
    · exact .inr ⟨y, hy, by unfold stepY; rw [hj]; simp [h1]⟩
theorem acc_arc {m : MachL} {q : Nat} {e : ArcL} {x y : List Int} {c : Int} (he : e ∈ arcsQ m q) (h : AccW m e.to.toNat x y c) : AccW m q (pre e.inn ++ x) (pre e.out ++ y) (e.wt + c) := by
  obtain ⟨s, h1, h2⟩ := arcsQ_mem he
  exact AccW.arc h1 h2 h
theorem step_go {s : SpotL} {p : SpotL × Int} (hp : p ∈ stepsAt a b v w s) (hi : s.i ≤ v.length) (hj : s.j ≤ w.length) {d : Int} (h : GoOn a b v w p.1 d) : GoOn a b v w s (p.2 + d) := by
  obtain ⟨y, d1, d2, h1, h2, rfl⟩ := h
  rcases mem_steps.1 hp with ⟨x, hx, i, hov, h0, rfl⟩ | ⟨x, hx, e, he, i, j, ho1, ho2, h0, h3, rfl⟩ | ⟨e, he, j, hov, h0, rfl⟩
  · have g := acc_arc hx h1
    have hz : pre x.out = [] := by unfold pre; rw [if_pos h0]
    rw [hz, ← (over_drop hov hi).1] at g
    exact ⟨_, _, _, g, h2, by simp only; omega⟩
  · have g := acc_arc hx h1
    have k := acc_arc he h2
    rw [← (over_drop ho1 hi).1] at g
    rw [← (over_drop ho2 hj).1, h3] at k
    exact ⟨_, _, _, g, k, by simp only; omega⟩
  · have k := acc_arc he h2
    have hz : pre e.inn = [] := by unfold pre; rw [if_pos h0]
    rw [hz, ← (over_drop hov hj).1] at k
    exact ⟨_, _, _, h1, k, by simp only; omega⟩
theorem step_in {s : SpotL} {p : SpotL × Int} (hp : p ∈ stepsAt a b v w s) (hi : s.i ≤ v.length) (hj : s.j ≤ w.length) : p.1.i ≤ v.length ∧ p.1.j ≤ w.length := by
  rcases mem_steps.1 hp with ⟨x, hx, i, hov, h0, rfl⟩ | ⟨x, hx, e, he, i, j, ho1, ho2, h0, h3, rfl⟩ | ⟨e, he, j, hov, h0, rfl⟩
  · exact ⟨(over_drop hov hi).2, hj⟩
  · exact ⟨(over_drop ho1 hi).2, (over_drop ho2 hj).2⟩
  · exact ⟨hi, (over_drop hov hj).2⟩
/-- what it costs to come to a spot -/
inductive RunTo (a b : MachL) (v w : List Int) (s0 : SpotL) : SpotL → Int → Prop
  | start : RunTo a b v w s0 s0 0
  | step {s : SpotL} {c : Int} {p : SpotL × Int} : RunTo a b v w s0 s c → p ∈ stepsAt a b v w s → RunTo a b v w s0 p.1 (c + p.2)
theorem run_in {s0 s : SpotL} {c : Int} (h : RunTo a b v w s0 s c) (hi : s0.i ≤ v.length) (hj : s0.j ≤ w.length) : s.i ≤ v.length ∧ s.j ≤ w.length := by
  induction h with
  | start => exact ⟨hi, hj⟩
  | step _ hp ih => exact step_in hp ih.1 ih.2
theorem run_go {s0 s : SpotL} {c : Int} (h : RunTo a b v w s0 s c) (hi : s0.i ≤ v.length) (hj : s0.j ≤ w.length) : ∀ {d : Int}, GoOn a b v w s d → GoOn a b v w s0 (c + d) := by
  induction h with
  | start => intro d h; simpa using h
  | @step s c p hr hp ih =>
    intro d h
    have := ih (step_go hp (run_in hr hi hj).1 (run_in hr hi hj).2 h)
    rw [Int.add_assoc]
    exact this
theorem go_comp {s0 : SpotL} (ha : 0 ≤ a.start) (hb : 0 ≤ b.start) (hs : s0 = ⟨a.start.toNat, b.start.toNat, 0, 0⟩) {d : Int} : GoOn a b v w s0 d ↔ Comp a b v w d := by
  subst hs
  unfold GoOn Comp
  constructor
  · rintro ⟨y, d1, d2, h1, h2, rfl⟩
    exact ⟨y, d1, d2, tot_accW.2 ⟨ha, h1⟩, tot_accW.2 ⟨hb, h2⟩, rfl⟩
  · rintro ⟨y, d1, d2, h1, h2, rfl⟩
    exact ⟨y, d1, d2, (tot_accW.1 h1).2, (tot_accW.1 h2).2, rfl⟩
/-- what it costs to end at a spot -/
def finS (a b : MachL) (s : SpotL) : Int := bothV (finQ a s.a) (finQ b s.b)
structure ClosedAt (a b : MachL) (v w : List Int) (F : SpotL → Int) (best : Int) (s : SpotL) : Prop where
  le : F s ≠ INF → ∀ p ∈ stepsAt a b v w s, F p.1 ≤ F s + p.2
  fin : F s ≠ INF → s.i = v.length → s.j = w.length → best ≤ bothV (F s) (finS a b s)
theorem finQ_of {m : MachL} {q : Nat} {s : StateL} (h : m.states[q]? = some s) : finQ m q = s.final := by unfold finQ; rw [h]; rfl
theorem arcsQ_of {m : MachL} {q : Nat} {s : StateL} (h : m.states[q]? = some s) : arcsQ m q = s.arcs := by unfold arcsQ; rw [h]; rfl
theorem drop_end {l : List Int} {i : Nat} (h : [] = l.drop i) (hi : i ≤ l.length) : i = l.length := by
  have := congrArg List.length h
  simp at this
  omega
theorem far_le (hva : Valid a) (hvb : Valid b) {F : SpotL → Int} {best : Int} (hF : ∀ s, 0 ≤ F s)
    (hC : ∀ s : SpotL, s.a < a.states.length → s.b < b.states.length → s.i ≤ v.length → s.j ≤ w.length → ClosedAt a b v w F best s) {p : Nat} {x y : List Int} {c : Int} (hA : AccW a p x y c) :
    ∀ {q : Nat} {y' z : List Int} {d : Int}, AccW b q y' z d → y' = y → ∀ i j, x = v.drop i → z = w.drop j → i ≤ v.length → j ≤ w.length → F ⟨p, q, i, j⟩ ≠ INF → F ⟨p, q, i, j⟩ + c + d < INF → best ≤ F ⟨p, q, i, j⟩ + c + d := by
  have hi : INF = 1000000001 := rfl
  have stepB : ∀ {p q : Nat} {e : ArcL} {i j : Nat} {z1 : List Int} {s : StateL}, p < a.states.length → b.states[q]? = some s → e ∈ s.arcs → e.inn = 0 → pre e.out ++ z1 = w.drop j → i ≤ v.length → j ≤ w.length → F ⟨p, q, i, j⟩ ≠ INF →
      ∃ j', z1 = w.drop j' ∧ j' ≤ w.length ∧ F ⟨p, e.to.toNat, i, j'⟩ ≤ F ⟨p, q, i, j⟩ + e.wt := by
    intro p q e i j z1 s hp hs he h0 hz hiv hjw hf
    obtain ⟨j', h1, h2, h3⟩ := over_of hz hjw
    refine ⟨j', h2, h3, ?_⟩
    have hc := (hC ⟨p, q, i, j⟩ hp (List.getElem?_eq_some_iff.1 hs).1 hiv hjw).le hf (⟨p, e.to.toNat, i, j'⟩, e.wt) (mem_steps.2 (.inr (.inr ⟨e, by rw [arcsQ_of hs]; exact he, j', h1, h0, rfl⟩)))
    exact hc
  induction hA with
  | @fin p s hs hf =>
    intro q y' z d hB
    induction hB with
    | @fin q t ht hg =>
      intro _ i j hx hz hiv hjw hne hlt
      have hF0 := hF ⟨p, q, i, j⟩
      have e1 := drop_end hx hiv; have e2 := drop_end hz hjw
      have hc := (hC ⟨p, q, i, j⟩ (List.getElem?_eq_some_iff.1 hs).1 (List.getElem?_eq_some_iff.1 ht).1 hiv hjw).fin hne e1 e2
      have h3 : finS a b ⟨p, q, i, j⟩ = s.final + t.final := by
        unfold finS bothV
        simp only [finQ_of hs, finQ_of ht]
        rw [if_neg (by rw [hi] at *; omega)]
      rw [h3] at hc
      unfold bothV at hc
      split at hc
      · rename_i h; rcases h with h | h
        · exact absurd h hne
        · have := (hva.st _ (List.mem_of_getElem? hs)).1; have := (hvb.st _ (List.mem_of_getElem? ht)).1
          omega
      · omega
    | @arc q t e y1 z1 c1 ht he hB' ih =>
      intro hy i j hx hz hiv hjw hne hlt
      obtain ⟨h1, h2⟩ := List.append_eq_nil_iff.1 hy
      have h0 : e.inn = 0 := by
        apply Classical.byContradiction
        intro h; unfold pre at h1; rw [if_neg h] at h1; cases h1
      obtain ⟨j', g1, g2, g3⟩ := stepB (List.getElem?_eq_some_iff.1 hs).1 ht he h0 hz hiv hjw hne
      have n1 := hB'.nonneg hvb
      have n2 := (hva.st _ (List.mem_of_getElem? hs)).1
      have hv1 : 0 ≤ s.final := by rcases n2 with h | h <;> omega
      have := ih h2 i j' hx g1 hiv g2 (by omega) (by omega)
      omega
  | @arc p s e x1 y1 c1 hs he hA' ihA =>
    intro q y' z d hB
    have hwe : 0 ≤ e.wt := ((hva.st _ (List.mem_of_getElem? hs)).2 e he).w0
    have nA := hA'.nonneg hva
    by_cases h0 : e.out = 0
    · intro hy i j hx hz hiv hjw hne hlt
      have hp0 : pre e.out = [] := by unfold pre; rw [if_pos h0]
      rw [hp0] at hy
      obtain ⟨i', k1, k2, k3⟩ := over_of hx hiv
      have hq : q < b.states.length := by cases hB with | fin h _ => exact (List.getElem?_eq_some_iff.1 h).1 | arc h _ _ => exact (List.getElem?_eq_some_iff.1 h).1
      have hc := (hC ⟨p, q, i, j⟩ (List.getElem?_eq_some_iff.1 hs).1 hq hiv hjw).le hne (⟨e.to.toNat, q, i', j⟩, e.wt) (mem_steps.2 (.inl ⟨e, by rw [arcsQ_of hs]; exact he, i', k1, h0, rfl⟩))
      have nB := hB.nonneg hvb
      simp only at hc
      have := ihA hB hy i' j k2 hz k3 hjw (by omega) (by omega)
      omega
    · have hp0 : pre e.out = [e.out] := by unfold pre; rw [if_neg h0]
      rw [hp0]
      induction hB with
      | @fin q t ht hg => intro hy; cases hy
      | @arc q t f y2 z1 c2 ht hf hB' ih =>
        intro hy i j hx hz hiv hjw hne hlt
        have nB := hB'.nonneg hvb
        have hwf : 0 ≤ f.wt := ((hvb.st _ (List.mem_of_getElem? ht)).2 f hf).w0
        by_cases h1 : f.inn = 0
        · have hp1 : pre f.inn = [] := by unfold pre; rw [if_pos h1]
          rw [hp1] at hy
          obtain ⟨j', g1, g2, g3⟩ := stepB (List.getElem?_eq_some_iff.1 hs).1 ht hf h1 hz hiv hjw hne
          have := ih hy i j' hx g1 hiv g2 (by omega) (by omega)
          omega
        · have hp1 : pre f.inn = [f.inn] := by unfold pre; rw [if_neg h1]
          rw [hp1] at hy
          injection hy with hy1 hy2
          obtain ⟨i', k1, k2, k3⟩ := over_of hx hiv
          obtain ⟨j', g1, g2, g3⟩ := over_of hz hjw
          have hc := (hC ⟨p, q, i, j⟩ (List.getElem?_eq_some_iff.1 hs).1 (List.getElem?_eq_some_iff.1 ht).1 hiv hjw).le hne (⟨e.to.toNat, f.to.toNat, i', j'⟩, e.wt + f.wt) (mem_steps.2 (.inr (.inl ⟨e, by rw [arcsQ_of hs]; exact he, f, by rw [arcsQ_of ht]; exact hf, i', j', k1, g1, h0, hy1, rfl⟩)))
          simp only at hc
          have := ihA hB' hy2 i' j' k2 g2 k3 g3 (by omega) (by omega)
          omega
end

/-! ### the table -/
section
variable (nb X Z : Nat)
def ixS (s : SpotL) : Nat := ((s.a * nb + s.b) * X + s.i) * Z + s.j
variable {nb X Z}
theorem two_eq {n x y x' y' : Nat} (h : x * n + y = x' * n + y') (hy : y < n) (hy' : y' < n) : x = x' ∧ y = y' := by
  have h1 := congrArg (· % n) h
  simp only [Nat.mul_add_mod', Nat.mod_eq_of_lt hy, Nat.mod_eq_of_lt hy'] at h1
  have h3 : x * n = x' * n := by omega
  exact ⟨Nat.eq_of_mul_eq_mul_right (by omega) h3, h1⟩
theorem ixS_inj {s t : SpotL} (h : ixS nb X Z s = ixS nb X Z t) (hs : s.b < nb ∧ s.i < X ∧ s.j < Z) (ht : t.b < nb ∧ t.i < X ∧ t.j < Z) : s = t := by
  unfold ixS at h
  obtain ⟨h1, h2⟩ := two_eq h hs.2.2 ht.2.2
  obtain ⟨h3, h4⟩ := two_eq h1 hs.2.1 ht.2.1
  obtain ⟨h5, h6⟩ := two_eq h3 hs.1 ht.1
  cases s; cases t; simp at *; omega
theorem two_lt {n m x y : Nat} (hx : x < m) (hy : y < n) : x * n + y < m * n := by
  have : (x + 1) * n ≤ m * n := Nat.mul_le_mul_right _ hx
  rw [Nat.succ_mul] at this
  omega
theorem ixS_lt {na : Nat} {s : SpotL} (hs : s.a < na ∧ s.b < nb ∧ s.i < X ∧ s.j < Z) : ixS nb X Z s < na * nb * X * Z := two_lt (two_lt (two_lt hs.1 hs.2.1) hs.2.2.1) hs.2.2.2
end
theorem set_sum : ∀ (l : List Int) (k : Nat) (x : Int), k < l.length → 0 ≤ x → x < l.getD k 0 → ((l.set k x).map Int.toNat).sum < (l.map Int.toNat).sum := by
  intro l
  induction l with
  | nil => intro k x h; simp at h
  | cons a l ih =>
    intro k x hk h0 hx
    cases k with
    | zero => simp at hx ⊢; omega
    | succ k =>
      have := ih k x (by simpa using hk) h0 (by simpa using hx)
      simp only [List.set_cons_succ, List.map_cons, List.sum_cons]; omega

/-- the two machines and words, and the sizes -/
structure Kp (a b : MachL) (v w : List Int) : Prop where
  va : Valid a
  vb : Valid b
  a0 : 0 ≤ a.start
  b0 : 0 ≤ b.start
  wa : ∀ q, ∀ e ∈ arcsQ a q, e.wt ≤ 9
  wb : ∀ q, ∀ e ∈ arcsQ b q, e.wt ≤ 9
section
variable {a b : MachL} {v w : List Int}
def k0 (a b : MachL) : SpotL := ⟨a.start.toNat, b.start.toNat, 0, 0⟩
def kN (a b : MachL) (v w : List Int) : Nat := a.states.length * b.states.length * (v.length + 1) * (w.length + 1)
def kIx (b : MachL) (v w : List Int) (s : SpotL) : Nat := ixS b.states.length (v.length + 1) (w.length + 1) s
def InS (a b : MachL) (v w : List Int) (s : SpotL) : Prop := s.a < a.states.length ∧ s.b < b.states.length ∧ s.i < v.length + 1 ∧ s.j < w.length + 1
def farF (b : MachL) (v w : List Int) (far : List Int) (s : SpotL) : Int := far.getD (kIx b v w s) INF
theorem kIx_lt {s : SpotL} (h : InS a b v w s) : kIx b v w s < kN a b v w := ixS_lt h
theorem kIx_inj {s t : SpotL} (hs : InS a b v w s) (ht : InS a b v w t) (h : kIx b v w s = kIx b v w t) : s = t := ixS_inj h ⟨hs.2.1, hs.2.2.1, hs.2.2.2⟩ ⟨ht.2.1, ht.2.2.1, ht.2.2.2⟩
theorem Kp.in0 (h : Kp a b v w) : InS a b v w (k0 a b) := by
  have := h.va.s1; have := h.vb.s1; have := h.a0; have := h.b0
  unfold InS k0
  simp only
  omega
theorem Kp.step (h : Kp a b v w) {s : SpotL} {p : SpotL × Int} (hs : InS a b v w s) (hp : p ∈ stepsAt a b v w s) : InS a b v w p.1 ∧ 0 ≤ p.2 ∧ p.2 ≤ 18 := by
  have hin := step_in hp (by have := hs.2.2.1; omega) (by have := hs.2.2.2; omega)
  rcases mem_steps.1 hp with ⟨x, hx, i, hov, h0, rfl⟩ | ⟨x, hx, e, he, i, j, ho1, ho2, h0, h3, rfl⟩ | ⟨e, he, j, hov, h0, rfl⟩
  · obtain ⟨g1, g2⟩ := to_lt2 h.va hx
    have := h.wa _ _ hx; have := g2.w0
    simp only at hin ⊢
    exact ⟨⟨g1, hs.2.1, by simp only; omega, by simp only; omega⟩, by omega, by omega⟩
  · obtain ⟨g1, g2⟩ := to_lt2 h.va hx
    obtain ⟨g3, g4⟩ := to_lt2 h.vb he
    have := h.wa _ _ hx; have := g2.w0
    have := h.wb _ _ he; have := g4.w0
    simp only at hin ⊢
    exact ⟨⟨g1, g3, by simp only; omega, by simp only; omega⟩, by omega, by omega⟩
  · obtain ⟨g3, g4⟩ := to_lt2 h.vb he
    have := h.wb _ _ he; have := g4.w0
    simp only at hin ⊢
    exact ⟨⟨hs.1, g3, by simp only; omega, by simp only; omega⟩, by omega, by omega⟩
/-- what is known of the table at any time -/
structure KTab (a b : MachL) (v w : List Int) (far : List Int) (best : Int) : Prop where
  len : far.length = kN a b v w
  lo : ∀ x ∈ far, 0 ≤ x ∧ x ≤ INF
  run : ∀ s, InS a b v w s → farF b v w far s ≠ INF → RunTo a b v w (k0 a b) s (farF b v w far s)
  first : farF b v w far (k0 a b) = 0
  b0 : 0 ≤ best
  b1 : best ≤ INF
  best : best ≠ INF → ∃ s c, RunTo a b v w (k0 a b) s c ∧ InS a b v w s ∧ s.i = v.length ∧ s.j = w.length ∧ finQ a s.a ≠ INF ∧ finQ b s.b ≠ INF ∧ best = c + (finQ a s.a + finQ b s.b)
theorem farF_b {far : List Int} {best : Int} (h : KTab a b v w far best) (s : SpotL) : 0 ≤ farF b v w far s ∧ farF b v w far s ≤ INF := by
  unfold farF
  rw [List.getD_eq_getElem?_getD]
  cases hg : far[kIx b v w s]? with
  | none => simp
  | some x => exact h.lo x (List.mem_of_getElem? hg)
theorem farF_set {far : List Int} {s t : SpotL} {x : Int} (hs : InS a b v w s) (ht : InS a b v w t) (hl : far.length = kN a b v w) : farF b v w (far.set (kIx b v w s) x) t = if t = s then x else farF b v w far t := by
  unfold farF
  rw [List.getD_eq_getElem?_getD, List.getElem?_set, List.getD_eq_getElem?_getD]
  by_cases h : t = s
  · subst h
    rw [if_pos rfl, if_pos rfl, if_pos (by rw [hl]; exact kIx_lt ht)]
    rfl
  · rw [if_neg (fun e => h (kIx_inj hs ht e).symm), if_neg h]
theorem KTab.start (h : Kp a b v w) : KTab a b v w ((List.replicate (kN a b v w) INF).set (kIx b v w (k0 a b)) 0) INF := by
  have h0 := h.in0
  have hl : (List.replicate (kN a b v w) INF).length = kN a b v w := by simp
  have hrep : ∀ t, farF b v w (List.replicate (kN a b v w) INF) t = INF := fun t => by
    unfold farF
    rw [List.getD_eq_getElem?_getD, List.getElem?_replicate]
    split <;> rfl
  refine ⟨by simp, fun x hx => ?_, fun s hs hne => ?_, ?_, by decide, Int.le_refl _, fun hne => absurd rfl hne⟩
  · rcases List.mem_or_eq_of_mem_set hx with h1 | h1
    · rw [List.eq_of_mem_replicate h1]; decide
    · subst h1; decide
  · rw [farF_set h0 hs hl] at hne ⊢
    by_cases e : s = k0 a b
    · subst e; rw [if_pos rfl]; exact RunTo.start
    · rw [if_neg e, hrep] at hne; exact absurd rfl hne
  · rw [farF_set h0 h0 hl, if_pos rfl]
theorem RunTo.nonneg (h : Kp a b v w) {s : SpotL} {c : Int} (hr : RunTo a b v w (k0 a b) s c) : 0 ≤ c ∧ InS a b v w s := by
  induction hr with
  | start => exact ⟨Int.le_refl _, h.in0⟩
  | step _ hp ih =>
    have := h.step ih.2 hp
    exact ⟨by omega, this.1⟩
/-- a way gets shorter -/
theorem KTab.less (h : Kp a b v w) {far : List Int} {best : Int} (hT : KTab a b v w far best) {s : SpotL} {c : Int} (hr : RunTo a b v w (k0 a b) s c) {p : SpotL × Int} (hp : p ∈ stepsAt a b v w s) (hlt : c + p.2 < farF b v w far p.1) :
    KTab a b v w (far.set (kIx b v w p.1) (c + p.2)) best ∧ ((far.set (kIx b v w p.1) (c + p.2)).map Int.toNat).sum < (far.map Int.toNat).sum := by
  have hn := hr.nonneg h
  have hst := h.step hn.2 hp
  have hr2 := RunTo.step hr hp
  have hbd := farF_b hT p.1
  refine ⟨⟨by simp [hT.len], fun x hx => ?_, fun t ht hne => ?_, ?_, hT.b0, hT.b1, hT.best⟩, ?_⟩
  · rcases List.mem_or_eq_of_mem_set hx with h1 | h1
    · exact hT.lo x h1
    · subst h1; omega
  · rw [farF_set hst.1 ht hT.len] at hne ⊢
    by_cases e : t = p.1
    · subst e; rw [if_pos rfl]; exact hr2
    · rw [if_neg e] at hne ⊢; exact hT.run t ht hne
  · rw [farF_set hst.1 h.in0 hT.len]
    by_cases e : k0 a b = p.1
    · have := hT.first; rw [e] at this; omega
    · rw [if_neg e]; exact hT.first
  · have hix : kIx b v w p.1 < far.length := by rw [hT.len]; exact kIx_lt hst.1
    refine set_sum _ _ _ hix (by omega) ?_
    unfold farF at hlt
    rw [List.getD_eq_getElem?_getD, List.getElem?_eq_getElem hix] at hlt ⊢
    exact hlt
theorem KTab.ends {far : List Int} {best : Int} (hT : KTab a b v w far best) {s : SpotL} {c : Int} (h : Kp a b v w) (hr : RunTo a b v w (k0 a b) s c) (hi : s.i = v.length) (hj : s.j = w.length) :
    KTab a b v w far (min best (bothV c (finS a b s))) := by
  have hn := hr.nonneg h
  have hfa : 0 ≤ finS a b s := by
    have key : ∀ {m : MachL} (hv : Valid m) (q : Nat), 0 ≤ finQ m q := fun {m} hv q => by
      unfold finQ
      cases hq : m.states[q]? with
      | none => decide
      | some t => have := (hv.st t (List.mem_of_getElem? hq)).1; simp only [Option.map_some, Option.getD_some]; rcases this with h | h <;> omega
    have := key h.va s.a; have := key h.vb s.b
    unfold finS bothV; split <;> omega
  have hI : INF = 1000000001 := rfl
  refine ⟨hT.len, hT.lo, hT.run, hT.first, ?_, ?_, fun hne => ?_⟩
  · have := hT.b0; unfold bothV; split <;> omega
  · have := hT.b1; omega
  · rcases Int.le_total best (bothV c (finS a b s)) with h1 | h1
    · rw [Int.min_eq_left h1] at hne ⊢; exact hT.best hne
    · rw [Int.min_eq_right h1] at hne ⊢
      have h2 : bothV c (finS a b s) = c + finS a b s ∧ finS a b s ≠ 1000000001 := by
        unfold bothV at hne ⊢
        split
        · rename_i h3; rw [if_pos h3] at hne; exact absurd rfl hne
        · rename_i h3; exact ⟨rfl, fun h4 => h3 (.inr h4)⟩
      have h3 : finS a b s = finQ a s.a + finQ b s.b ∧ finQ a s.a ≠ INF ∧ finQ b s.b ≠ INF := by
        have h4 := h2.2
        unfold finS bothV at h4 ⊢
        split
        · rename_i h5; rw [if_pos h5] at h4; exact absurd rfl h4
        · rename_i h5; exact ⟨rfl, fun h6 => h5 (.inl h6), fun h6 => h5 (.inr h6)⟩
      exact ⟨s, c, hr, hn.2, hi, hj, h3.2.1, h3.2.2, by rw [h2.1, h3.1]⟩
/-- a round: all spots ahead of number K are done -/
structure KRound (a b : MachL) (v w : List Int) (far0 far : List Int) (best : Int) (ag : Bool) (K : Nat) : Prop where
  tab : KTab a b v w far best
  still : ag = false → far = far0 ∧ ∀ s, InS a b v w s → kIx b v w s < K → ClosedAt a b v w (farF b v w far) best s
  less : ag = true → (far.map Int.toNat).sum < (far0.map Int.toNat).sum
/-- the steps of one spot: t of them are done -/
structure KStep (a b : MachL) (v w : List Int) (far0 far : List Int) (best : Int) (ag : Bool) (s : SpotL) (c : Int) (t : Nat) : Prop where
  tab : KTab a b v w far best
  still : ag = false → far = far0 ∧ (∀ s', InS a b v w s' → kIx b v w s' < kIx b v w s → ClosedAt a b v w (farF b v w far) best s') ∧ farF b v w far s = c ∧ ∀ p ∈ (stepsAt a b v w s).take t, farF b v w far p.1 ≤ c + p.2
  less : ag = true → (far.map Int.toNat).sum < (far0.map Int.toNat).sum
  run : RunTo a b v w (k0 a b) s c
  ne : c ≠ INF
  fin : s.i = v.length → s.j = w.length → best ≤ bothV c (finS a b s)
theorem ClosedAt.best_le {F : SpotL → Int} {best best' : Int} {s : SpotL} (h : ClosedAt a b v w F best s) (hle : best' ≤ best) : ClosedAt a b v w F best' s := ⟨h.le, fun h1 h2 h3 => Int.le_trans hle (h.fin h1 h2 h3)⟩
theorem KRound.skip {far0 far : List Int} {best : Int} {ag : Bool} {s : SpotL} (h : KRound a b v w far0 far best ag (kIx b v w s)) (hs : InS a b v w s) (hc : farF b v w far s = INF) : KRound a b v w far0 far best ag (kIx b v w s + 1) := by
  refine ⟨h.tab, fun ha => ⟨(h.still ha).1, fun t ht hlt => ?_⟩, h.less⟩
  rcases Nat.lt_or_ge (kIx b v w t) (kIx b v w s) with h1 | h1
  · exact (h.still ha).2 t ht h1
  · obtain rfl := kIx_inj ht hs (by omega)
    exact ⟨fun h2 => absurd hc h2, fun h2 => absurd hc h2⟩
theorem KRound.begin {far0 far : List Int} {best : Int} {ag : Bool} {s : SpotL} (hk : Kp a b v w) (h : KRound a b v w far0 far best ag (kIx b v w s)) (hs : InS a b v w s) (hc : farF b v w far s ≠ INF) (best' : Int)
    (hb : best' = if s.i = v.length ∧ s.j = w.length then min best (bothV (farF b v w far s) (finS a b s)) else best) : KStep a b v w far0 far best' ag s (farF b v w far s) 0 := by
  have hr := h.tab.run s hs hc
  have hle : best' ≤ best := by rw [hb]; split <;> omega
  refine ⟨?_, fun ha => ⟨(h.still ha).1, fun t ht hlt => ((h.still ha).2 t ht hlt).best_le hle, rfl, fun p hp => by simp at hp⟩, h.less, hr, hc, fun h1 h2 => ?_⟩
  · rw [hb]
    split
    · rename_i h1; exact h.tab.ends hk hr h1.1 h1.2
    · exact h.tab
  · rw [hb, if_pos ⟨h1, h2⟩]; omega
theorem KStep.pass {far0 far : List Int} {best c : Int} {ag : Bool} {s : SpotL} {t : Nat} {p : SpotL × Int} (h : KStep a b v w far0 far best ag s c t) (hp : (stepsAt a b v w s)[t]? = some p) (hle : ¬ c + p.2 < farF b v w far p.1) : KStep a b v w far0 far best ag s c (t + 1) := by
  refine ⟨h.tab, fun ha => ⟨(h.still ha).1, (h.still ha).2.1, (h.still ha).2.2.1, fun p' hp' => ?_⟩, h.less, h.run, h.ne, h.fin⟩
  obtain ⟨ht, e⟩ := List.getElem?_eq_some_iff.1 hp
  rw [List.take_succ_eq_append_getElem ht, e] at hp'
  rcases List.mem_append.1 hp' with h1 | h1
  · exact (h.still ha).2.2.2 p' h1
  · simp at h1; subst h1; omega
theorem KStep.turn {far0 far : List Int} {best c : Int} {ag : Bool} {s : SpotL} {t : Nat} {p : SpotL × Int} (hk : Kp a b v w) (h : KStep a b v w far0 far best ag s c t) (hp : (stepsAt a b v w s)[t]? = some p) (hlt : c + p.2 < farF b v w far p.1) : KStep a b v w far0 (far.set (kIx b v w p.1) (c + p.2)) best true s c (t + 1) := by
  obtain ⟨h1, h2⟩ := h.tab.less hk h.run (List.mem_of_getElem? hp) hlt
  refine ⟨h1, fun ha => (by cases ha), fun _ => ?_, h.run, h.ne, h.fin⟩
  cases ag with
  | true => have := h.less rfl; omega
  | false => have := (h.still rfl).1; rw [this] at h2 ⊢; exact h2
theorem KStep.shut {far0 far : List Int} {best c : Int} {ag : Bool} {s : SpotL} {t : Nat} (h : KStep a b v w far0 far best ag s c t) (hs : InS a b v w s) (ht : (stepsAt a b v w s).length ≤ t) : KRound a b v w far0 far best ag (kIx b v w s + 1) := by
  refine ⟨h.tab, fun ha => ⟨(h.still ha).1, fun t' ht' hlt => ?_⟩, h.less⟩
  obtain ⟨-, h2, h3, h4⟩ := h.still ha
  rcases Nat.lt_or_ge (kIx b v w t') (kIx b v w s) with h1 | h1
  · exact h2 t' ht' h1
  · obtain rfl := kIx_inj ht' hs (by omega)
    rw [List.take_of_length_le ht] at h4
    exact ⟨fun _ p hp => by rw [h3]; exact h4 p hp, fun _ h5 h6 => by rw [h3]; exact h.fin h5 h6⟩
/-- nothing has changed: the best is the best of all -/
theorem KRound.end_ {far0 far : List Int} {best : Int} (hk : Kp a b v w) (h : KRound a b v w far0 far best false (kN a b v w)) {c : MachL} (hT : ∀ d, Tot c v w false d ↔ Comp a b v w d) {r : Int} (hr : Best (Tot c v w false) r) : r = best := by
  have hI : INF = 1000000001 := rfl
  have hcl : ∀ s : SpotL, s.a < a.states.length → s.b < b.states.length → s.i ≤ v.length → s.j ≤ w.length → ClosedAt a b v w (farF b v w far) best s := fun s h1 h2 h3 h4 => by
    have hs : InS a b v w s := ⟨h1, h2, by omega, by omega⟩
    exact (h.still rfl).2 s hs (kIx_lt hs)
  have hgo : ∀ {d : Int}, GoOn a b v w (k0 a b) d ↔ Tot c v w false d := fun {d} => (go_comp hk.a0 hk.b0 rfl).trans (hT d).symm
  have hsound : best ≠ INF → Tot c v w false best := fun hne => by
    obtain ⟨s, c0, h1, -, h3, h4, h5, h6, h7⟩ := h.tab.best hne
    obtain ⟨t1, g1, g2⟩ := finQ_ne h5
    obtain ⟨t2, g3, g4⟩ := finQ_ne h6
    rw [← hgo, h7]
    refine run_go h1 (by simp [k0]) (by simp [k0]) ⟨[], _, _, ?_, ?_, rfl⟩
    · rw [h3, List.drop_length, ← g2]; exact AccW.fin g1 (by rw [g2]; exact h5)
    · rw [h4, List.drop_length, ← g4]; exact AccW.fin g3 (by rw [g4]; exact h6)
  rcases hr with ⟨rfl, h1⟩ | ⟨h1, h2, h3⟩
  · apply Classical.byContradiction
    intro hne
    exact h1 _ (hsound (fun e => hne e.symm))
  · obtain ⟨y, d1, d2, g1, g2, e⟩ := hgo.2 h1
    have h4 := far_le hk.va hk.vb (fun s => (farF_b h.tab s).1) hcl g1 g2 rfl 0 0 rfl rfl (Nat.zero_le _) (Nat.zero_le _) (by rw [show (⟨(k0 a b).a, (k0 a b).b, 0, 0⟩ : SpotL) = k0 a b from rfl, h.tab.first]; decide) (by rw [show (⟨(k0 a b).a, (k0 a b).b, 0, 0⟩ : SpotL) = k0 a b from rfl, h.tab.first]; omega)
    rw [show (⟨(k0 a b).a, (k0 a b).b, 0, 0⟩ : SpotL) = k0 a b from rfl, h.tab.first] at h4
    have h5 := h2 _ (hsound (by omega))
    omega
end
end Go.Proofs.Ytfikkpgigicepaa
