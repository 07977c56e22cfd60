/- compose.Compose's loop (plain). -/
/- Keys that are triples: three numbers. -/
import Derived.Test.YtikkmoleneioeaaComposePlain
import Derived.Test.YtikkmoleneioeaaCheck
import Derived.Test.YtikkmoleneioeaaMaps
namespace Go.Proofs.Ytikkmoleneioeaa

def coStep (T : List TriL) (h : HopL) : List TriL := if h.goes ∈ T then T else T ++ [h.goes]
def coArc (T : List TriL) (h : HopL) : ArcL := ⟨h.inn, h.out, h.wt, ((T.idxOf h.goes : Nat) : Int)⟩
/-- an arc is a hop -/
def ArcOf (T : List TriL) (h : HopL) (e : ArcL) : Prop := e.inn = h.inn ∧ e.out = h.out ∧ e.wt = h.wt ∧ 0 ≤ e.to ∧ T[e.to.toNat]? = some h.goes
def Grows (T T' : List TriL) : Prop := ∀ (i : Nat) (t : TriL), T[i]? = some t → T'[i]? = some t
theorem Grows.refl (T : List TriL) : Grows T T := fun _ _ h => h
theorem Grows.trans {T T' T'' : List TriL} (h : Grows T T') (h' : Grows T' T'') : Grows T T'' := fun i t g => h' i t (h i t g)
theorem ArcOf.grows {T T' : List TriL} {h : HopL} {e : ArcL} (ha : ArcOf T h e) (hg : Grows T T') : ArcOf T' h e := ⟨ha.1, ha.2.1, ha.2.2.1, ha.2.2.2.1, hg _ _ ha.2.2.2.2⟩
theorem coStep_grows (T : List TriL) (h : HopL) : Grows T (coStep T h) := fun i t g => by
  unfold coStep
  split
  · exact g
  · rw [List.getElem?_append_left (List.getElem?_eq_some_iff.1 g).1]; exact g
theorem coStep_len (T : List TriL) (h : HopL) : T.length ≤ (coStep T h).length ∧ (coStep T h).length ≤ T.length + 1 := by
  unfold coStep; split <;> simp
theorem coStep_nd {T : List TriL} (hn : T.Nodup) (h : HopL) : (coStep T h).Nodup := by
  unfold coStep
  split
  · exact hn
  · rename_i hne
    refine List.nodup_append.2 ⟨hn, by simp, fun x hx y hy e => ?_⟩
    have : y = h.goes := by simpa using hy
    subst e; subst this
    exact hne hx
theorem coStep_mem {T : List TriL} {h : HopL} {t : TriL} (ht : t ∈ coStep T h) : t ∈ T ∨ t = h.goes := by
  unfold coStep at ht
  split at ht
  · exact .inl ht
  · rcases List.mem_append.1 ht with g | g
    · exact .inl g
    · right; simpa using g
theorem coArc_of (T : List TriL) (h : HopL) : ArcOf (coStep T h) h (coArc T h) := by
  refine ⟨rfl, rfl, rfl, by simp [coArc], ?_⟩
  show (coStep T h)[((T.idxOf h.goes : Nat) : Int).toNat]? = _
  rw [Int.toNat_natCast]
  unfold coStep
  split
  · rename_i hm
    have hl := List.idxOf_lt_length_of_mem hm
    rw [List.getElem?_eq_getElem hl, List.getElem_idxOf hl]
  · rename_i hm
    rw [List.idxOf_eq_length hm, List.getElem?_append_right (Nat.le_refl _), Nat.sub_self]; rfl
/-- the numbers of triples, as the map holds them -/
def numD (T : List TriL) : List (TriL × Int) := T.mapIdx (fun i t => (t, (i : Int)))
theorem numD_keys (T : List TriL) : (numD T).map (·.1) = T := by
  unfold numD
  apply List.ext_getElem
  · simp
  · intro i h1 h2; simp
theorem numD_snoc (T : List TriL) (t : TriL) : numD (T ++ [t]) = numD T ++ [(t, (T.length : Int))] := by
  unfold numD
  rw [List.mapIdx_append]; simp
theorem assoc_app {κ ν : Type} [DecidableEq κ] (l : List (κ × ν)) (p : κ × ν) (k : κ) : assoc (l ++ [p]) k = (assoc l k).or (if k = p.1 then some p.2 else none) := by
  induction l with
  | nil => simp [assoc]
  | cons q l ih =>
    simp only [List.cons_append, assoc]
    split
    · rfl
    · exact ih
theorem rev_ind {α : Type} {P : List α → Prop} (h0 : P []) (h1 : ∀ l a, P l → P (l ++ [a])) (l : List α) : P l := by
  have : ∀ n (l : List α), l.length = n → P l := by
    intro n
    induction n with
    | zero => intro l hl; rw [List.eq_nil_of_length_eq_zero hl]; exact h0
    | succ n ih =>
      intro l hl
      rcases List.eq_nil_or_concat l with rfl | ⟨l', a, rfl⟩
      · simp at hl
      · rw [List.concat_eq_append]
        exact h1 l' a (ih l' (by simp at hl; omega))
  exact this _ l rfl
theorem numD_assoc (T : List TriL) : T.Nodup → ∀ t, assoc (numD T) t = if t ∈ T then some ((T.idxOf t : Nat) : Int) else none := by
  induction T using rev_ind with
  | h0 => intro _ t; simp [numD, assoc]
  | h1 T u ih =>
    intro hn t
    obtain ⟨h1, -, h3⟩ := List.nodup_append.1 hn
    rw [numD_snoc, assoc_app, ih h1]
    by_cases hm : t ∈ T
    · rw [if_pos hm, if_pos (List.mem_append.2 (.inl hm)), List.idxOf_append, if_pos hm]; rfl
    · rw [if_neg hm]
      by_cases e : t = u
      · subst e
        rw [if_pos rfl, if_pos (by simp), List.idxOf_append, if_neg hm]
        simp
      · rw [if_neg e, if_neg (by simp [hm, e])]; rfl

/-- the loop over states -/
structure CoInv (a b : MachL) (T : List TriL) (S : List StateL) : Prop where
  first : T[0]? = some ⟨a.start.toNat, b.start.toNat, 0⟩
  nd : T.Nodup
  le : S.length ≤ T.length
  rng : ∀ t ∈ T, t.a < a.states.length ∧ t.b < b.states.length ∧ t.f ≤ 2
  fin : ∀ (i : Nat) (t : TriL) (s : StateL), T[i]? = some t → S[i]? = some s → s.final = finT a b t
  arcs : ∀ (i : Nat) (t : TriL) (s : StateL), T[i]? = some t → S[i]? = some s → s.arcs.length = (hopsX a b t).length ∧ ∀ (k : Nat) (h : HopL) (e : ArcL), (hopsX a b t)[k]? = some h → s.arcs[k]? = some e → ArcOf T h e
/-- .. over the hops of a state -/
structure CoIn (T0 T : List TriL) (hs : List HopL) (k : Nat) (L : List ArcL) : Prop where
  gr : Grows T0 T
  nd : T.Nodup
  len : L.length = k
  lt : k ≤ hs.length
  mem : ∀ t ∈ T, t ∈ T0 ∨ ∃ h ∈ hs, t = h.goes
  arc : ∀ (j : Nat) (h : HopL) (e : ArcL), hs[j]? = some h → L[j]? = some e → ArcOf T h e
section
variable {a b : MachL} {T T0 : List TriL} {S : List StateL} {hs : List HopL} {k : Nat} {L : List ArcL}
theorem CoIn.step (h : CoIn T0 T hs k L) (hk : k < hs.length) : CoIn T0 (coStep T hs[k]) hs (k + 1) (L ++ [coArc T hs[k]]) := by
  refine ⟨h.gr.trans (coStep_grows _ _), coStep_nd h.nd _, by rw [List.length_append, h.len]; rfl, hk, fun t ht => ?_, fun j x e hx he => ?_⟩
  · rcases coStep_mem ht with g | g
    · exact h.mem t g
    · exact .inr ⟨_, List.getElem_mem hk, g⟩
  · by_cases hj : j < L.length
    · rw [List.getElem?_append_left hj] at he
      exact (h.arc j x e hx he).grows (coStep_grows _ _)
    · rw [List.getElem?_append_right (by omega)] at he
      have hj2 : j = k := by
        have := (List.getElem?_eq_some_iff.1 he).1
        simp at this
        have := h.len
        omega
      subst hj2
      rw [h.len, Nat.sub_self] at he
      simp at he
      rw [List.getElem?_eq_getElem hk] at hx
      cases hx
      rw [← he]
      exact coArc_of T _
theorem to_lt2 {m : MachL} (hv : Valid m) {q : Nat} {e : ArcL} (h : e ∈ arcsQ m q) : e.to.toNat < m.states.length ∧ ValidArc m.states.length e := by
  obtain ⟨s, h1, h2⟩ := arcsQ_mem h
  have h3 := (hv.st s (List.mem_of_getElem? h1)).2 e h2
  have := h3.t0; have := h3.t1
  exact ⟨by omega, h3⟩
theorem hop_rng (ha : Valid a) (hb : Valid b) {t : TriL} (ht : t.a < a.states.length ∧ t.b < b.states.length) {h : HopL} (hm : h ∈ hopsX a b t) : h.goes.a < a.states.length ∧ h.goes.b < b.states.length ∧ h.goes.f ≤ 2 := by
  rcases hops_mem.1 hm with ⟨x, hx, y, hy, -, rfl⟩ | ⟨x, hx, -, -, rfl⟩ | ⟨y, hy, -, -, rfl⟩
  · exact ⟨(to_lt2 ha hx).1, (to_lt2 hb hy).1, by simp [hopB]⟩
  · exact ⟨(to_lt2 ha hx).1, ht.2, by simp [hopLt]⟩
  · exact ⟨ht.1, (to_lt2 hb hy).1, by simp [hopR]⟩
theorem CoInv.next (ha : Valid a) (hb : Valid b) (h : CoInv a b T0 S) {t : TriL} (ht : T0[S.length]? = some t) (hI : CoIn T0 T (hopsX a b t) (hopsX a b t).length L) : CoInv a b T (S ++ [⟨finT a b t, L⟩]) := by
  have hlt := (List.getElem?_eq_some_iff.1 (hI.gr _ _ ht)).1
  have key : ∀ (i : Nat) (u : TriL) (s : StateL), T[i]? = some u → (S ++ [⟨finT a b t, L⟩])[i]? = some s → (T0[i]? = some u ∧ S[i]? = some s) ∨ (u = t ∧ s = ⟨finT a b t, L⟩) := fun i u s hu hs => by
    by_cases hi : i < S.length
    · rw [List.getElem?_append_left hi] at hs
      left
      refine ⟨?_, hs⟩
      have h0 : i < T0.length := Nat.lt_of_lt_of_le hi h.le
      have := hI.gr i _ (List.getElem?_eq_getElem h0)
      rw [hu] at this
      rw [List.getElem?_eq_getElem h0, ← this]
    · rw [List.getElem?_append_right (by omega)] at hs
      have hi2 : i = S.length := by
        have := (List.getElem?_eq_some_iff.1 hs).1
        simp at this; omega
      subst hi2
      rw [Nat.sub_self] at hs
      simp at hs
      rw [hI.gr _ _ ht] at hu
      cases hu
      exact .inr ⟨rfl, hs.symm⟩
  refine ⟨hI.gr _ _ h.first, hI.nd, by rw [List.length_append, List.length_singleton]; omega, fun u hu => ?_, fun i u s hu hs => ?_, fun i u s hu hs => ?_⟩
  · rcases hI.mem u hu with g | ⟨x, hx, rfl⟩
    · exact h.rng u g
    · have := h.rng t (List.mem_of_getElem? ht)
      exact hop_rng ha hb ⟨this.1, this.2.1⟩ hx
  · rcases key i u s hu hs with ⟨g1, g2⟩ | ⟨rfl, rfl⟩
    · exact h.fin i u s g1 g2
    · rfl
  · rcases key i u s hu hs with ⟨g1, g2⟩ | ⟨rfl, rfl⟩
    · obtain ⟨f1, f2⟩ := h.arcs i u s g1 g2
      exact ⟨f1, fun k x e hx he => (f2 k x e hx he).grows hI.gr⟩
    · exact ⟨hI.len, fun k x e hx he => hI.arc k x e hx he⟩
theorem CoInv.done (h : CoInv a b T S) (hl : S.length = T.length) : ComposeOk a b ⟨0, S⟩ T :=
  ⟨rfl, h.first, h.nd, hl.symm, h.fin, h.arcs⟩
theorem CoInv.init (ha : Valid a) (hb : Valid b) (ha0 : 0 ≤ a.start) (hb0 : 0 ≤ b.start) : CoInv a b [⟨a.start.toNat, b.start.toNat, 0⟩] [] := by
  have h1 := ha.s1; have h2 := hb.s1
  refine ⟨rfl, by simp, by simp, fun t ht => ?_, fun i t s _ hs => by simp at hs, fun i t s _ hs => by simp at hs⟩
  have : t = ⟨a.start.toNat, b.start.toNat, 0⟩ := by simpa using ht
  subst this
  exact ⟨by simp only; omega, by simp only; omega, by simp⟩
/-- weights of two machines that fit -/
structure WtOk (a b : MachL) (W1 W2 : Int) : Prop where
  w1 : ∀ q, ∀ e ∈ arcsQ a q, e.wt ≤ W1
  w2 : ∀ q, ∀ e ∈ arcsQ b q, e.wt ≤ W2
  f1 : ∀ q, finQ a q ≠ INF → finQ a q ≤ W1
  f2 : ∀ q, finQ b q ≠ INF → finQ b q ≤ W2
  p1 : 0 ≤ W1
  p2 : 0 ≤ W2
  le : W1 + W2 ≤ 1000000000
theorem hop_valid (ha : Valid a) (hb : Valid b) {W1 W2 : Int} (hW : WtOk a b W1 W2) {t : TriL} {h : HopL} (hm : h ∈ hopsX a b t) : 0 ≤ h.inn ∧ h.inn ≤ 1000 ∧ 0 ≤ h.out ∧ h.out ≤ 1000 ∧ 0 ≤ h.wt ∧ h.wt ≤ W1 + W2 := by
  have hp := hW.p1; have hq := hW.p2
  rcases hops_mem.1 hm with ⟨x, hx, y, hy, -, rfl⟩ | ⟨x, hx, -, -, rfl⟩ | ⟨y, hy, -, -, rfl⟩
  · have g1 := (to_lt2 ha hx).2; have g2 := (to_lt2 hb hy).2
    have k1 := hW.w1 _ x hx; have k2 := hW.w2 _ y hy
    obtain ⟨v0, v1, v2, v3, v4, v5, -, -⟩ := g1
    obtain ⟨u0, u1, u2, u3, u4, u5, -, -⟩ := g2
    simp only [hopB]; omega
  · have g1 := (to_lt2 ha hx).2
    have k1 := hW.w1 _ x hx
    obtain ⟨v0, v1, v2, v3, v4, v5, -, -⟩ := g1
    simp only [hopLt]; omega
  · have g2 := (to_lt2 hb hy).2
    have k2 := hW.w2 _ y hy
    obtain ⟨u0, u1, u2, u3, u4, u5, -, -⟩ := g2
    simp only [hopR]; omega
end
end Go.Proofs.Ytikkmoleneioeaa

namespace Go.Proofs.Ytikkmoleneioeaa
open Go.RowKit

theorem zeroIntT (w : World) : (zeroValue 3).run Try.prog w = .ok (.int .i64 0) w := by kernel_rfl
abbrev triV (t : TriL) : Value := .agg #[.int .i64 t.a, .int .i64 t.b, .int .i64 t.f]
theorem eqTri (a b c a' b' c' : Int) (w : World) : (Op.equalIn 10000 83 (.agg #[.int .i64 a, .int .i64 b, .int .i64 c]) (.agg #[.int .i64 a', .int .i64 b', .int .i64 c'])).run Try.prog w = .ok (a == a' && (b == b' && c == c')) w := by
  have u3 := Try.underlying3
  have a3 := Try.isAgg3
  have z3 := Try.sizeOf3
  rw [show (10000 : Nat) = 9999 + 1 from rfl, run_equalIn_struct w _ _ _ _ (by kernel_rfl) (by kernel_rfl)]
  simp only [Program.fieldsOf, Try.underlying83]
  simp [Op.eqFields, part, go_sem, u3, a3, z3]
  by_cases h1 : a = a' <;> by_cases h2 : b = b' <;> by_cases h3 : c = c' <;> simp [h1, h2, h3]
theorem keyOkTri : KeyOk Try.prog 83 triV where
  chk e k w := by cases e <;> kernel_rfl
  eq a b w := by
    obtain ⟨a1, a2, a3⟩ := a; obtain ⟨b1, b2, b3⟩ := b
    show (Op.equalIn 10000 _ _ _).run _ w = _
    rw [eqTri]
    by_cases h1 : a1 = b1 <;> by_cases h2 : a2 = b2 <;> by_cases h3 : a3 = b3 <;> simp [h1, h2, h3] <;> omega
  stays a := by obtain ⟨a1, a2, a3⟩ := a; simp [Instr.sameBits]
  now a b := ⟨_, Try.underlying83, .inl rfl⟩
end Go.Proofs.Ytikkmoleneioeaa
