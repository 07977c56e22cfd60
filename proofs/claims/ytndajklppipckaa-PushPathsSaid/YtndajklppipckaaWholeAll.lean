/- All whole ways of a machine whose arcs lead forward; those of a trimmed and pushed machine (plain). -/
/- The whole ways of a trimmed and of a pushed machine (plain). -/
/- A pushed machine of few states has small weights (plain). -/
/- topo.Paths and best.Costs of a machine without states. -/
import Derived.Test.YtndajklppipckaaCostsLaw
import Derived.Test.YtndajklppipckaaFwSmall
import Derived.Test.YtndajklppipckaaPushPlain
import Derived.Test.YtndajklppipckaaCosts
import Derived.Test.YtndajklppipckaaPaths
namespace Go.Proofs.Ytndajklppipckaa

theorem cheap_len {α : Type} [DecidableEq α] {W : α → Prop} {c : α → Int} {n : Nat} {ps L : List α} (h : Cheap W c n ps) (hn : L.Nodup) (hL : ∀ p, p ∈ L ↔ W p) : ps.length = min n L.length := by
  have h1 := h.len
  have h2 := nodup_sub_len ps L h.nd (fun x hx => (hL x).2 (h.all x hx))
  by_cases h3 : ps.length = n
  · omega
  · have h4 := nodup_sub_len L ps hn (fun x hx => (h.told x ((hL x).1 hx)).resolve_right (fun g => h3 g.1))
    omega
def toI (m : MachL) (q i : Nat) : Nat := (((arcsAt m q)[i]?).map (fun a => a.to.toNat)).getD 0
def allW (m : MachL) : Nat → Nat → List (List Nat)
  | 0, _ => []
  | k + 1, q => (if finI m q ≠ 1000000001 then [[]] else []) ++ (List.range (arcsAt m q).length).flatMap (fun i => (allW m k (toI m q i)).map (fun p => p ++ [i]))
theorem whole_nil (m : MachL) (q : Nat) : Whole m q [] ↔ finI m q ≠ 1000000001 := by
  constructor
  · intro h; exact h.2
  · intro h; exact ⟨rfl, h⟩
theorem pw_one {m : MachL} {q i : Nat} {a : ArcL} (h : (arcsAt m q)[i]? = some a) : pw m q [i] = some (a.to.toNat, a.wt) := by
  rw [pw_cons (m := m) (s := q) (p := []) (q := q) (c := 0) rfl, h]; simp
theorem allW_mem (m : MachL) : ∀ k q p, p ∈ allW m k q ↔ Whole m q p ∧ p.length < k := by
  intro k
  induction k with
  | zero => intro q p; simp [allW]
  | succ k ih =>
    intro q p
    rw [allW, List.mem_append]
    rcases List.eq_nil_or_concat p with rfl | ⟨p', i, rfl⟩
    · rw [whole_nil]
      constructor
      · intro h
        rcases h with h | h
        · split at h
          · rename_i hf; exact ⟨hf, by simp⟩
          · cases h
        · obtain ⟨i, -, hi⟩ := List.mem_flatMap.1 h
          obtain ⟨p, -, e⟩ := List.mem_map.1 hi
          simp at e
      · intro ⟨h, _⟩
        left; rw [if_pos h]; simp
    · rw [List.concat_eq_append]
      have hlen : (p' ++ [i]).length = p'.length + 1 := by simp
      constructor
      · intro h
        rcases h with h | h
        · split at h
          · simp at h
          · cases h
        · obtain ⟨j, hj, hi⟩ := List.mem_flatMap.1 h
          obtain ⟨p2, hp2, e⟩ := List.mem_map.1 hi
          obtain ⟨rfl, e2⟩ := List.append_inj' e rfl
          have e2 : j = i := by simpa using e2
          subst e2
          have hj' : j < (arcsAt m q).length := by simpa using hj
          have hg := List.getElem?_eq_getElem hj'
          have h1 := (ih _ _).1 hp2
          have ht : toI m q j = ((arcsAt m q)[j]).to.toNat := by unfold toI; rw [hg]; rfl
          rw [ht] at h1
          exact ⟨(whole_snoc (pw_one hg) p2).1.2 h1.1, by rw [hlen]; omega⟩
      · intro ⟨h, hl⟩
        right
        cases hg : (arcsAt m q)[i]? with
        | none =>
          have h9 := h.1
          rw [pw_app, pw_cons (m := m) (s := q) (p := []) (q := q) (c := 0) rfl, hg] at h9
          cases h9
        | some a =>
          have h1 := (whole_snoc (pw_one hg) p').1.1 h
          have hi := (List.getElem?_eq_some_iff.1 hg).1
          have ht : toI m q i = a.to.toNat := by unfold toI; rw [hg]; rfl
          refine List.mem_flatMap.2 ⟨i, by simpa using hi, List.mem_map.2 ⟨p', (ih _ _).2 ⟨by rw [ht]; exact h1, by rw [hlen] at hl; omega⟩, rfl⟩⟩
theorem nodup_flat {α : Type} (f : Nat → List α) (n : Nat) (h1 : ∀ i, i < n → (f i).Nodup) (h2 : ∀ i j, i < n → j < n → i ≠ j → ∀ x ∈ f i, x ∉ f j) : ((List.range n).flatMap f).Nodup := by
  induction n with
  | zero => simp
  | succ n ih =>
    rw [List.range_succ, List.flatMap_append]
    refine List.nodup_append.2 ⟨ih (fun i hi => h1 i (by omega)) (fun i j hi hj => h2 i j (by omega) (by omega)), by simpa using h1 n (by omega), ?_⟩
    intro a ha b hb e
    subst e
    obtain ⟨i, hi, ha⟩ := List.mem_flatMap.1 ha
    have hi' : i < n := by simpa using hi
    exact h2 i n (by omega) (by omega) (by omega) a ha (by simpa using hb)
theorem allW_nodup (m : MachL) : ∀ k q, (allW m k q).Nodup := by
  intro k
  induction k with
  | zero => intro q; simp [allW]
  | succ k ih =>
    intro q
    rw [allW]
    refine List.nodup_append.2 ⟨by split <;> simp, nodup_flat _ _ (fun i _ => ?_) (fun i j _ _ hne x hx hx2 => ?_), ?_⟩
    · exact List.pairwise_map.2 ((ih _).imp (fun hne e => hne (List.append_cancel_right e)))
    · obtain ⟨p, -, rfl⟩ := List.mem_map.1 hx
      obtain ⟨p2, -, e⟩ := List.mem_map.1 hx2
      have := List.append_inj' e rfl
      simp at this
      exact hne this.2.symm
    · intro a ha b hb e
      subst e
      obtain ⟨i, -, hi⟩ := List.mem_flatMap.1 hb
      obtain ⟨p, -, e⟩ := List.mem_map.1 hi
      split at ha
      · have : a = [] := by simpa using ha
        rw [this] at e; simp at e
      · cases ha
theorem sum_count (n : Nat) (f : Nat → Nat) : ∀ (L : List Nat), (∀ x ∈ L, x < n) → (L.map f).sum = nsum n (fun t => f t * L.count t) := by
  intro L
  induction L with
  | nil => intro _; rw [nsum_zero_of (fun q _ => by simp)]; rfl
  | cons a L ih =>
    intro h
    rw [List.map_cons, List.sum_cons, ih (fun x hx => h x (by simp [hx]))]
    have e : nsum n (fun t => f t * (a :: L).count t) = nsum n (fun t => f t * L.count t + if t = a then f t else 0) := nsum_congr (fun t _ => by
      rw [List.count_cons]
      by_cases hta : t = a
      · subst hta; simp [Nat.mul_add]
      · have : ¬ a = t := fun e => hta e.symm
        simp [hta, this])
    rw [e, nsum_add, nsum_at (h a (by simp))]
    omega
theorem flat_len {α : Type} (f : Nat → List α) (n : Nat) : ((List.range n).flatMap f).length = ((List.range n).map (fun i => (f i).length)).sum := by
  induction n with
  | zero => rfl
  | succ n ih => rw [List.range_succ, List.flatMap_append, List.length_append, ih, List.map_append, List.sum_append]; simp
theorem allW_len {m : MachL} (h : FwdSmall m) {B : Nat → Nat} (hB : ∀ q, q < m.states.length → B q = (if finB m q = true then 1 else 0) + nsum m.states.length (fun t => B t * ad m q t)) : ∀ k q, q < m.states.length → m.states.length - q < k → (allW m k q).length = B q := by
  intro k
  induction k with
  | zero => intro q _ hk; omega
  | succ k ih =>
    intro q hq hk
    rw [allW, List.length_append, flat_len, hB q hq]
    have hg := List.getElem?_eq_getElem hq
    have hf : finB m q = (finI m q != 1000000001) := by unfold finB finI; rw [hg]; rfl
    have htos : tos m q = (arcsAt m q).map (fun a => a.to.toNat) := by unfold tos; rw [hg, arcsAt_of hq]; rfl
    have h1 : ((if finI m q ≠ 1000000001 then [[]] else [] : List (List Nat))).length = if finB m q = true then 1 else 0 := by
      rw [hf]
      by_cases h9 : finI m q = 1000000001
      · rw [if_neg (fun g => g h9), if_neg (by simp [h9])]; rfl
      · rw [if_pos h9, if_pos (by simpa using h9)]; rfl
    have h2 : ((List.range (arcsAt m q).length).map (fun i => ((allW m k (toI m q i)).map (fun p => p ++ [i])).length)).sum = ((tos m q).map B).sum := by
      congr 1
      apply List.ext_getElem
      · rw [htos]; simp
      · intro i h3 h4
        have hi : i < (arcsAt m q).length := by simpa using h3
        have hga := List.getElem?_eq_getElem hi
        have ht : toI m q i = ((arcsAt m q)[i]).to.toNat := by unfold toI; rw [hga]; rfl
        obtain ⟨hq', ha⟩ := arcsAt_lt (List.getElem_mem hi)
        have hva := (h.v.st _ (List.getElem_mem hq')).2 _ ha
        have hfw := h.f q hq _ ha
        simp only [List.getElem_map, List.getElem_range, List.length_map, htos]
        rw [ht]
        exact ih _ (by have := hva.t0; have := hva.t1; omega) (by omega)
    rw [h1, h2, sum_count m.states.length B (tos m q) (fun x hx => by
      rw [htos] at hx
      obtain ⟨a, ha, rfl⟩ := List.mem_map.1 hx
      obtain ⟨hq', ha⟩ := arcsAt_lt ha
      have hva := (h.v.st _ (List.getElem_mem hq')).2 _ ha
      have := hva.t0; have := hva.t1; omega)]
    rfl
theorem pw_fwd {m : MachL} (h : Fwd m) (hv : Valid m) {s : Nat} (hs : s < m.states.length) : ∀ (p : List Nat) (x : Nat × Int), pw m s p = some x → s + p.length ≤ x.1 ∧ x.1 < m.states.length := by
  intro p
  induction p with
  | nil => intro x hx; cases hx; exact ⟨by simp, hs⟩
  | cons i p ih =>
    intro x hx
    cases hp : pw m s p with
    | none => rw [pw_cons_none hp] at hx; cases hx
    | some y =>
      rw [pw_cons (q := y.1) (c := y.2) hp] at hx
      cases ha : (arcsAt m y.1)[i]? with
      | none => rw [ha] at hx; cases hx
      | some a =>
        rw [ha] at hx
        cases hx
        obtain ⟨hq, h2⟩ := arcsAt_lt (List.mem_of_getElem? ha)
        have h3 := ih y hp
        have h4 := h y.1 hq a h2
        have h5 := (hv.st _ (List.getElem_mem hq)).2 a h2
        have := h5.t0; have := h5.t1
        simp only [List.length_cons]
        omega
/-- all whole ways, in a list -/
theorem ways_all {m : MachL} (h : FwdSmall m) {M : Nat → Nat} (hC : Counts m 0 M) : ∃ L : List (List Nat), L.Nodup ∧ (∀ p, p ∈ L ↔ Whole m 0 p) ∧ L.length = tot m M := by
  obtain ⟨B, hB, -⟩ := fwd_behind h
  refine ⟨allW m (m.states.length + 1) 0, allW_nodup _ _ _, fun p => ?_, ?_⟩
  · rw [allW_mem]
    constructor
    · exact fun g => g.1
    · intro g
      refine ⟨g, ?_⟩
      obtain ⟨x, hx⟩ := Option.isSome_iff_exists.1 g.1
      have := pw_fwd h.f h.v (show 0 < m.states.length from h.n1) p x hx
      omega
  · rw [allW_len h hB _ _ h.n1 (by omega), tot_behind h.n1 hC hB]
end Go.Proofs.Ytndajklppipckaa

namespace Go.Proofs.Ytndajklppipckaa

section
variable {α : Type} (P : α → Bool)
theorem filter_at : ∀ (l : List α) (i : Nat) (a : α), l[i]? = some a → P a = true → (l.filter P)[(l.take i).countP P]? = some a := by
  intro l
  induction l with
  | nil => intro i a h; simp at h
  | cons b l ih =>
    intro i a h hp
    cases i with
    | zero =>
      simp at h; subst h
      simp [hp]
    | succ i =>
      simp at h
      have := ih i a h hp
      rw [List.take_succ_cons, List.countP_cons, List.filter_cons]
      by_cases hb : P b = true
      · rw [if_pos hb, if_pos hb]; simpa using this
      · rw [if_neg hb, if_neg hb]; simpa using this
theorem filter_from : ∀ (l : List α) (j : Nat) (a : α), (l.filter P)[j]? = some a → ∃ i, l[i]? = some a ∧ P a = true ∧ (l.take i).countP P = j := by
  intro l
  induction l with
  | nil => intro j a h; simp at h
  | cons b l ih =>
    intro j a h
    rw [List.filter_cons] at h
    by_cases hb : P b = true
    · rw [if_pos hb] at h
      cases j with
      | zero => simp at h; subst h; exact ⟨0, rfl, hb, rfl⟩
      | succ j =>
        simp at h
        obtain ⟨i, h1, h2, h3⟩ := ih j a h
        exact ⟨i + 1, by simpa using h1, h2, by rw [List.take_succ_cons, List.countP_cons, if_pos hb, h3]⟩
    · rw [if_neg hb] at h
      obtain ⟨i, h1, h2, h3⟩ := ih j a h
      exact ⟨i + 1, by simpa using h1, h2, by rw [List.take_succ_cons, List.countP_cons, if_neg hb, h3]; rfl⟩
theorem count_lt (l : List α) {i j : Nat} {a : α} (h : l[i]? = some a) (hp : P a = true) (hij : i < j) : (l.take i).countP P < (l.take j).countP P := by
  have hi := (List.getElem?_eq_some_iff.1 h).1
  have h1 : l.take (i + 1) = l.take i ++ [a] := by
    rw [List.take_succ_eq_append_getElem hi]
    congr 1
    simp [(List.getElem?_eq_some_iff.1 h).2]
  have h2 : ((l.take (i + 1)).countP P) ≤ (l.take j).countP P := by
    have : l.take (i + 1) = (l.take j).take (i + 1) := by rw [List.take_take]; congr 1; omega
    rw [this]
    exact (List.take_sublist _ _).countP_le
  rw [h1, List.countP_append] at h2
  simp [hp] at h2
  omega
theorem count_inj (l : List α) {i j : Nat} {a b : α} (hi : l[i]? = some a) (hj : l[j]? = some b) (ha : P a = true) (hb : P b = true) (h : (l.take i).countP P = (l.take j).countP P) : i = j := by
  rcases Nat.lt_trichotomy i j with h1 | h1 | h1
  · have := count_lt P l hi ha h1; omega
  · exact h1
  · have := count_lt P l hj hb h1; omega
end
section
variable {m : MachL}
/-- is an arc kept? -/
noncomputable def kp (m : MachL) (a : ArcL) : Bool := (keepOf m).getD a.to.toNat false
noncomputable def tmap (m : MachL) (s : Nat) : List Nat → List Nat
  | [] => []
  | i :: p => ((arcsAt m (pq m s p)).take i).countP (kp m) :: tmap m s p
theorem trim_arcsAt {q : Nat} (hk : (keepOf m).getD q false = true) (hq : q < m.states.length) : arcsAt (trimM m) (idx (keepOf m) q) = trimArcs (keepOf m) (arcsAt m q) := by
  have e : (trimM m).states[idx (keepOf m) q]? = some (trimState (keepOf m) m.states[q]) := trim_at (keepOf_len m) hk hq
  unfold arcsAt
  rw [e, List.getElem?_eq_getElem hq]; rfl
theorem trim_finI {q : Nat} (hk : (keepOf m).getD q false = true) (hq : q < m.states.length) : finI (trimM m) (idx (keepOf m) q) = finI m q := by
  have e : (trimM m).states[idx (keepOf m) q]? = some (trimState (keepOf m) m.states[q]) := trim_at (keepOf_len m) hk hq
  unfold finI
  rw [e, List.getElem?_eq_getElem hq]; rfl
theorem trimArcs_at {l : List ArcL} {i : Nat} {a : ArcL} (h : l[i]? = some a) (hk : kp m a = true) : (trimArcs (keepOf m) l)[(l.take i).countP (kp m)]? = some (numArc (keepOf m) a) := by
  unfold trimArcs
  rw [List.getElem?_map]
  have := filter_at (kp m) l i a h hk
  unfold kp at this ⊢
  rw [this]; rfl
theorem trimArcs_from {l : List ArcL} {j : Nat} {a : ArcL} (h : (trimArcs (keepOf m) l)[j]? = some a) : ∃ i b, l[i]? = some b ∧ kp m b = true ∧ (l.take i).countP (kp m) = j ∧ a = numArc (keepOf m) b := by
  unfold trimArcs at h
  rw [List.getElem?_map] at h
  cases hf : (l.filter fun a => (keepOf m).getD a.to.toNat false)[j]? with
  | none => rw [hf] at h; cases h
  | some b =>
    rw [hf] at h
    obtain ⟨i, h1, h2, h3⟩ := filter_from (kp m) l j b hf
    exact ⟨i, b, h1, h2, h3, by cases h; rfl⟩
theorem num_to {a : ArcL} (hk : kp m a = true) : (numArc (keepOf m) a).to.toNat = idx (keepOf m) a.to.toNat := by
  show (num (keepOf m) a.to.toNat).toNat = _
  rw [num_kept hk]; simp
theorem pw_RA {s : Nat} (hr : RA m s) : ∀ (p : List Nat) (x : Nat × Int), pw m s p = some x → RA m x.1 := by
  intro p
  induction p with
  | nil => intro x hx; cases hx; exact hr
  | cons i p ih =>
    intro x hx
    cases hp : pw m s p with
    | none => rw [pw_cons_none hp] at hx; cases hx
    | some y =>
      rw [pw_cons (q := y.1) (c := y.2) hp] at hx
      cases ha : (arcsAt m y.1)[i]? with
      | none => rw [ha] at hx; cases hx
      | some a =>
        rw [ha] at hx
        cases hx
        obtain ⟨hq, h2⟩ := arcsAt_lt (List.mem_of_getElem? ha)
        exact (ih y hp).step (ahead_mem.2 ⟨hq, a, h2, rfl⟩)
theorem trim_pw (hv : Valid m) {s : Nat} (hr : RA m s) : ∀ (p : List Nat) (x : Nat × Int), pw m s p = some x → RB m x.1 → pw (trimM m) (idx (keepOf m) s) (tmap m s p) = some (idx (keepOf m) x.1, x.2) := by
  intro p
  induction p with
  | nil => intro x hx _; cases hx; rfl
  | cons i p ih =>
    intro x hx hb
    cases hp : pw m s p with
    | none => rw [pw_cons_none hp] at hx; cases hx
    | some y =>
      rw [pw_cons (q := y.1) (c := y.2) hp] at hx
      cases ha : (arcsAt m y.1)[i]? with
      | none => rw [ha] at hx; cases hx
      | some a =>
        rw [ha] at hx
        cases hx
        obtain ⟨hq, h2⟩ := arcsAt_lt (List.mem_of_getElem? ha)
        have hm : a.to.toNat ∈ aheadOf m.states y.1 := ahead_mem.2 ⟨hq, a, h2, rfl⟩
        have hby := RB_pre hv hb hm
        have hry := pw_RA hr p y hp
        have hky := (keep_iff hv).2 ⟨hry, hby⟩
        have hka : kp m a = true := (keep_iff hv).2 ⟨hry.step hm, hb⟩
        have h3 := ih y hp hby
        unfold tmap
        rw [(pq_of hp).1, pw_cons h3, trim_arcsAt hky hq, trimArcs_at ha hka]
        simp only [Option.map_some, num_to hka]
        rfl
theorem pw_trim (hv : Valid m) {s : Nat} (hs : s < m.states.length) (hk : (keepOf m).getD s false = true) : ∀ (p' : List Nat) (x' : Nat × Int), pw (trimM m) (idx (keepOf m) s) p' = some x' → ∃ p x, pw m s p = some x ∧ tmap m s p = p' ∧ idx (keepOf m) x.1 = x'.1 ∧ x.2 = x'.2 ∧ (keepOf m).getD x.1 false = true := by
  intro p'
  induction p' with
  | nil => intro x' hx; cases hx; exact ⟨[], (s, 0), rfl, rfl, rfl, rfl, hk⟩
  | cons j p' ih =>
    intro x' hx
    cases hp : pw (trimM m) (idx (keepOf m) s) p' with
    | none => rw [pw_cons_none hp] at hx; cases hx
    | some y' =>
      obtain ⟨p, y, h1, h2, h3, h4, h5⟩ := ih y' hp
      rw [pw_cons (q := y'.1) (c := y'.2) hp, ← h3] at hx
      have hq := pq_lt hv hs p y h1
      rw [trim_arcsAt h5 hq] at hx
      cases ha : (trimArcs (keepOf m) (arcsAt m y.1))[j]? with
      | none => rw [ha] at hx; cases hx
      | some a' =>
        rw [ha] at hx
        obtain ⟨i, a, g1, g2, g3, rfl⟩ := trimArcs_from ha
        cases hx
        refine ⟨i :: p, (a.to.toNat, y.2 + a.wt), ?_, ?_, (num_to g2).symm, ?_, g2⟩
        · rw [pw_cons (q := y.1) (c := y.2) h1, g1]; rfl
        · unfold tmap
          rw [(pq_of h1).1, g3, h2]
        · rw [h4]; rfl
theorem tmap_inj (hv : Valid m) {s : Nat} (hr : RA m s) : ∀ (p p2 : List Nat) (x x2 : Nat × Int), pw m s p = some x → pw m s p2 = some x2 → RB m x.1 → RB m x2.1 → tmap m s p = tmap m s p2 → p = p2 := by
  intro p
  induction p with
  | nil =>
    intro p2 x x2 _ _ _ _ he
    cases p2 with
    | nil => rfl
    | cons i p2 => cases he
  | cons i p ih =>
    intro p2 x x2 hx hx2 hb hb2 he
    cases p2 with
    | nil => cases he
    | cons j p2 =>
      unfold tmap at he
      obtain ⟨e1, e2⟩ := List.cons.inj he
      have key : ∀ (i : Nat) (p : List Nat) (x : Nat × Int), pw m s (i :: p) = some x → RB m x.1 → ∃ y a, pw m s p = some y ∧ (arcsAt m y.1)[i]? = some a ∧ kp m a = true ∧ RB m y.1 := fun i p x hx hb => by
        cases hp : pw m s p with
        | none => rw [pw_cons_none hp] at hx; cases hx
        | some y =>
          rw [pw_cons (q := y.1) (c := y.2) hp] at hx
          cases ha : (arcsAt m y.1)[i]? with
          | none => rw [ha] at hx; cases hx
          | some a =>
            rw [ha] at hx
            cases hx
            obtain ⟨hq, h2⟩ := arcsAt_lt (List.mem_of_getElem? ha)
            have hm : a.to.toNat ∈ aheadOf m.states y.1 := ahead_mem.2 ⟨hq, a, h2, rfl⟩
            exact ⟨y, a, rfl, ha, (keep_iff hv).2 ⟨(pw_RA hr p y hp).step hm, hb⟩, RB_pre hv hb hm⟩
      obtain ⟨y, a, h1, h2, h3, h4⟩ := key i p x hx hb
      obtain ⟨y2, a2, k1, k2, k3, k4⟩ := key j p2 x2 hx2 hb2
      obtain rfl := ih p2 y y2 h1 k1 h4 k4 e2
      rw [h1] at k1
      cases k1
      rw [(pq_of h1).1] at e1
      rw [count_inj (kp m) _ h2 k2 h3 k3 e1]
end
section
variable {t : MachL} {d : List Int}
theorem push_arcsAt (q : Nat) : arcsAt (pushM d t) q = (arcsAt t q).map (pushArc d q) := by
  unfold arcsAt pushM
  simp only [List.getElem?_mapIdx]
  cases t.states[q]? <;> rfl
theorem push_finI (q : Nat) : finI (pushM d t) q = pushFin d q (finI t q) := by
  unfold finI pushM
  simp only [List.getElem?_mapIdx]
  cases t.states[q]? with
  | none => rfl
  | some s => rfl
theorem push_pw (s : Nat) : ∀ p, pw (pushM d t) s p = (pw t s p).map (fun x => (x.1, x.2 + (d.getD x.1 0 - d.getD s 0))) := by
  intro p
  induction p with
  | nil => simp [pw]
  | cons i p ih =>
    cases hp : pw t s p with
    | none =>
      rw [hp] at ih
      rw [pw_cons_none hp, pw_cons_none ih]; rfl
    | some y =>
      rw [hp] at ih
      simp only [Option.map_some] at ih
      rw [pw_cons (q := y.1) (c := y.2) hp, pw_cons ih, push_arcsAt, List.getElem?_map]
      cases (arcsAt t y.1)[i]? with
      | none => rfl
      | some a =>
        simp only [Option.map_some, pushArc]
        congr 2
        omega
/-- pushed, a whole way costs the total less -/
theorem push_whole (hv : Valid t) (h : DOk d t) (s : Nat) (p : List Nat) : (Whole (pushM d t) s p ↔ Whole t s p) ∧ (Whole t s p → wcost (pushM d t) s p = wcost t s p - d.getD s 0) := by
  have hp := push_pw (t := t) (d := d) s p
  cases hx : pw t s p with
  | none =>
    rw [hx] at hp
    unfold Whole
    rw [hx, hp]; simp
  | some x =>
    rw [hx] at hp
    simp only [Option.map_some] at hp
    have e1 := pq_of hx; have e2 := pq_of hp
    unfold Whole wcost
    rw [e1.1, e1.2, e2.1, e2.2, hx, hp, push_finI]
    simp only [Option.isSome_some, true_and]
    unfold pushFin
    by_cases hf : finI t x.1 = 1000000001
    · rw [if_pos hf]; simp [hf]
    · have hq := finI_lt hf
      have hb := h.b x.1 hq
      rw [if_neg hf]
      refine ⟨⟨fun _ => hf, fun _ => ?_⟩, fun _ => by omega⟩
      have h3 := (hv.st _ (List.getElem_mem hq)).1
      rw [← finI_of hq] at h3
      unfold ValidFinal at h3
      omega
end
section
variable {m : MachL} {d : List Int}
theorem whole_RB (hv : Valid m) {s : Nat} {p : List Nat} (h : Whole m s p) : ∃ x, pw m s p = some x ∧ RB m x.1 ∧ RB m s := by
  obtain ⟨x, hx⟩ := Option.isSome_iff_exists.1 h.1
  have hf := h.2
  rw [(pq_of hx).1] at hf
  have hq := finI_lt hf
  have h1 : RB m x.1 := way_RB hv (ends_start hq (by rw [← finI_of hq]; exact hf))
  exact ⟨x, hx, h1, way_RB hv (way_of_whole hv h)⟩
theorem start_RA (h0 : m.start = 0) : RA m 0 := Reach.start (by unfold startOf; rw [h0]; simp)
theorem pp_none (hv : Valid m) (h0 : m.start = 0) (hk : ¬ (keepOf m).getD 0 false = true) (p : List Nat) : ¬ Whole m 0 p := fun h => by
  obtain ⟨x, -, -, hb⟩ := whole_RB hv h
  exact hk ((keep_iff hv).2 ⟨start_RA h0, hb⟩)
theorem idx_zero (K : List Bool) : idx K 0 = 0 := rfl
/-- from trimmed and pushed ways to ways and back -/
theorem pp_map (hv : Valid m) (h0 : m.start = 0) (hn : 0 < m.states.length) (hk : (keepOf m).getD 0 false = true) (hd : DOk d (trimM m)) :
    (∀ p, Whole m 0 p → Whole (pushM d (trimM m)) 0 (tmap m 0 p)) ∧ (∀ p p', Whole m 0 p → Whole m 0 p' → tmap m 0 p = tmap m 0 p' → p = p') ∧ (∀ p', Whole (pushM d (trimM m)) 0 p' → ∃ p, Whole m 0 p ∧ tmap m 0 p = p') ∧
    (∀ p, Whole m 0 p → wcost (pushM d (trimM m)) 0 (tmap m 0 p) = wcost m 0 p + -(d.getD 0 0)) := by
  have hr := start_RA h0
  have htv := trim_valid hv
  have hT : ∀ p, Whole m 0 p → Whole (trimM m) 0 (tmap m 0 p) ∧ wcost (trimM m) 0 (tmap m 0 p) = wcost m 0 p := fun p hp => by
    obtain ⟨x, hx, hb, -⟩ := whole_RB hv hp
    have h1 := trim_pw hv hr p x hx hb
    rw [idx_zero] at h1
    have hf := hp.2
    rw [(pq_of hx).1] at hf
    have hkx := (keep_iff hv).2 ⟨pw_RA hr p x hx, hb⟩
    have hfi := trim_finI hkx (finI_lt hf)
    unfold Whole wcost
    rw [(pq_of h1).1, (pq_of h1).2, (pq_of hx).1, (pq_of hx).2, h1]
    simp only
    rw [hfi]
    exact ⟨⟨rfl, hf⟩, rfl⟩
  refine ⟨fun p hp => (push_whole htv hd 0 _).1.2 (hT p hp).1, fun p p' hp hp' he => ?_, fun p' hp' => ?_, fun p hp => ?_⟩
  · obtain ⟨x, hx, hb, -⟩ := whole_RB hv hp
    obtain ⟨x', hx', hb', -⟩ := whole_RB hv hp'
    exact tmap_inj hv hr p p' x x' hx hx' hb hb' he
  · have h1 := (push_whole htv hd 0 p').1.1 hp'
    obtain ⟨x', hx'⟩ := Option.isSome_iff_exists.1 h1.1
    obtain ⟨p, x, g1, g2, g3, g4, g5⟩ := pw_trim hv hn hk p' x' hx'
    have hf := h1.2
    rw [(pq_of hx').1, ← g3, trim_finI g5 (pq_lt hv hn p x g1)] at hf
    refine ⟨p, ⟨by rw [g1]; rfl, by rw [(pq_of g1).1]; exact hf⟩, g2⟩
  · rw [(push_whole htv hd 0 _).2 (hT p hp).1, (hT p hp).2]; omega
theorem pp_cheap (hv : Valid m) (h0 : m.start = 0) (hn : 0 < m.states.length) (hk : (keepOf m).getD 0 false = true) (hd : DOk d (trimM m)) {n : Nat} {ps qs : List (List Nat)} (hp : Cheap (Whole m 0) (wcost m 0) n ps) (hq : Cheap (Whole (pushM d (trimM m)) 0) (wcost (pushM d (trimM m)) 0) n qs) :
    ps.map (wcost m 0) = (qs.map (wcost (pushM d (trimM m)) 0)).map (· + d.getD 0 0) := by
  obtain ⟨h1, h2, h3, h4⟩ := pp_map hv h0 hn hk hd
  have h5 := hp.turn (tmap m 0) h1 h2 h3 h4
  rw [hq.one h5.1, h5.2, List.map_map]
  symm
  conv => rhs; rw [← List.map_id (ps.map (wcost m 0))]
  apply List.map_congr_left
  intro a _
  simp only [Function.comp, id]; omega
theorem pp_len (hv : Valid m) (h0 : m.start = 0) (hn : 0 < m.states.length) (hk : (keepOf m).getD 0 false = true) (hd : DOk d (trimM m)) {L L' : List (List Nat)} (hL : L.Nodup) (hL2 : ∀ p, p ∈ L ↔ Whole m 0 p) (hL' : L'.Nodup) (hL2' : ∀ p, p ∈ L' ↔ Whole (pushM d (trimM m)) 0 p) : L.length = L'.length := by
  obtain ⟨h1, h2, h3, h4⟩ := pp_map hv h0 hn hk hd
  have e1 : (L.map (tmap m 0)).Nodup := List.pairwise_map.2 (List.Pairwise.imp_of_mem (fun ha hb hne he => hne (h2 _ _ ((hL2 _).1 ha) ((hL2 _).1 hb) he)) hL)
  have g1 := nodup_sub_len _ L' e1 (fun x hx => by
    obtain ⟨p, hp, rfl⟩ := List.mem_map.1 hx
    exact (hL2' _).2 (h1 p ((hL2 p).1 hp)))
  have g2 := nodup_sub_len L' (L.map (tmap m 0)) hL' (fun x hx => by
    obtain ⟨p, hp, rfl⟩ := h3 x ((hL2' x).1 hx)
    exact List.mem_map.2 ⟨p, (hL2 p).2 hp, rfl⟩)
  rw [List.length_map] at g1 g2
  omega
theorem idx_mono (K : List Bool) {q p : Nat} (hq : K.getD q false = true) (h : q < p) : idx K q < idx K p := by
  unfold idx
  have hl := getD_lt hq
  have e : (K.take (q + 1)).count true = (K.take q).count true + 1 := by rw [num_snoc K q hl, if_pos hq]
  have h2 : (K.take (q + 1)).count true ≤ (K.take p).count true := by
    have : K.take (q + 1) = (K.take p).take (q + 1) := by rw [List.take_take]; congr 1; omega
    rw [this]
    exact (List.take_sublist _ _).count_le _
  omega
theorem fwd_x (h : FwdSmall m) (hk : (keepOf m).getD 0 false = true) (hx : Valid (pushM d (trimM m))) : FwdSmall (pushM d (trimM m)) := by
  have hv := h.v
  have hK := keepOf_len m
  have h0l := idx_lt hK hk h.n1
  have hlen : (pushM d (trimM m)).states.length = (trimM m).states.length := push_len _ _
  have key : ∀ i, i < (trimM m).states.length → ∃ q, ∃ hq : q < m.states.length, (keepOf m).getD q false = true ∧ idx (keepOf m) q = i ∧ ∀ h' : i < (trimM m).states.length, (trimM m).states[i] = trimState (keepOf m) m.states[q] := fun i hi => by
    obtain ⟨q, h1, h2, h3⟩ := trim_from hK i m.states.length (Nat.le_refl _) hi
    have e : (trimM m).states[idx (keepOf m) q]? = some (trimState (keepOf m) m.states[q]) := trim_at hK h2 h1
    rw [h3] at e
    exact ⟨q, h1, h2, h3, fun h' => by rw [List.getElem?_eq_getElem h'] at e; exact Option.some.inj e⟩
  refine ⟨hx, fun i hi a ha => ?_, ?_, ?_, ?_, fun s hs => ?_⟩
  · rw [push_get] at ha
    rw [hlen] at hi
    obtain ⟨q, hq, h2, h3, h4⟩ := key i hi
    rw [h4 hi] at ha
    obtain ⟨b, hb, rfl⟩ := List.mem_map.1 ha
    obtain ⟨b0, hb0, hkb, rfl⟩ := trim_arc hb
    show (i : Int) < num (keepOf m) b0.to.toNat
    rw [num_kept hkb, ← h3]
    have := h.f q hq b0 hb0
    have := idx_mono (keepOf m) h2 (show q < b0.to.toNat by omega)
    omega
  · rw [hlen]; exact Nat.lt_of_le_of_lt (Nat.zero_le _) h0l
  · rw [hlen]; exact Nat.le_trans (trim_len_le hK) h.n8
  · show (trimMach (keepOf m) m).start = 0
    show (if 0 ≤ m.start then num (keepOf m) m.start.toNat else -1) = 0
    have h9 := h.s0
    rw [h9, if_pos (Int.le_refl 0)]
    show num (keepOf m) 0 = 0
    rw [num_kept hk]; rfl
  · obtain ⟨i, hi, rfl⟩ := List.getElem_of_mem hs
    rw [push_get]
    rw [hlen] at hi
    obtain ⟨q, hq, h2, h3, h4⟩ := key i hi
    rw [h4 hi]
    show ((trimArcs (keepOf m) m.states[q].arcs).map _).length ≤ 4
    rw [List.length_map]
    exact Nat.le_trans (trimArcs_len _ _) (h.a4 _ (List.getElem_mem hq))
end
end Go.Proofs.Ytndajklppipckaa

namespace Go.Proofs.Ytndajklppipckaa

theorem dok_small {t : MachL} {d : List Int} (hv : Valid t) (hs : Small t) (hn : t.states.length ≤ 8) (h : DOk d t) (q : Nat) (hq : q < t.states.length) : 0 ≤ d.getD q 0 ∧ d.getD q 0 ≤ 8000000 := by
  refine ⟨(h.b q hq).1, ?_⟩
  obtain ⟨c', hc, hl⟩ := way_small (F := 1000000) (W := 1000000) (Ends_ok hv) (fun x hx => by
    obtain ⟨s, hss, rfl⟩ := List.mem_map.1 hx
    exact (hs s hss).1) (fun l hl e he => by
    obtain ⟨q, hq, rfl⟩ := List.getElem_of_mem hl
    have hg : (endsE t).getD q [] = (endsE t)[q] := by simp [List.getD_eq_getElem?_getD, hq]
    rw [← hg] at he
    obtain ⟨p, hp, a, ha, e⟩ := (Ends_mem hv q _).1 he
    unfold fE at e
    injection e with _ e
    subst e
    exact (hs _ (List.getElem_mem hp)).2 a ha) (by omega) (h.way q hq)
  have := h.le q c' hq hc
  omega
/-- what the walk needs of a pushed machine's weights -/
theorem push_bounds {t : MachL} {d : List Int} (hv : Valid t) (hs : Small t) (hn : t.states.length ≤ 8) (h : DOk d t) :
    (∀ s ∈ (pushM d t).states, ∀ a ∈ s.arcs, a.wt ≤ 9000000) ∧ (∀ s ∈ (pushM d t).states, s.final ≠ 1000000001 → s.final ≤ 1000000) := by
  constructor
  · intro s hs' a ha
    obtain ⟨q, hq, rfl⟩ := List.getElem_of_mem hs'
    rw [push_get] at ha
    rw [push_len] at hq
    obtain ⟨b, hb, rfl⟩ := List.mem_map.1 ha
    have h1 := (hs _ (List.getElem_mem hq)).2 b hb
    have h2 := dok_small hv hs hn h _ (to_lt hv _ (List.getElem_mem hq) b hb)
    have h3 := dok_small hv hs hn h q hq
    simp only [pushArc]; omega
  · intro s hs' hf
    obtain ⟨q, hq, rfl⟩ := List.getElem_of_mem hs'
    rw [push_get] at hf ⊢
    rw [push_len] at hq
    have h1 := (hs _ (List.getElem_mem hq)).1
    have h3 := dok_small hv hs hn h q hq
    simp only [pushState, pushFin] at hf ⊢
    split
    · rename_i e; rw [if_pos e] at hf; exact absurd e hf
    · rename_i e
      have := h1.resolve_left e
      omega
theorem small_fwd {m : MachL} (hs : Small m) : Small (fwdM m) := by
  intro s hs'
  obtain ⟨q, hq, rfl⟩ := List.getElem_of_mem hs'
  have hq' : q < m.states.length := by simpa [fwdM] using hq
  have e : (fwdM m).states[q] = fwdS m.states.length q m.states[q] := by simp [fwdM]
  rw [e]
  refine ⟨(hs _ (List.getElem_mem hq')).1, fun a ha => ?_⟩
  unfold fwdS fwdArcs at ha
  simp only at ha
  split at ha
  · obtain ⟨b, hb, rfl⟩ := List.mem_map.1 ha
    exact (hs _ (List.getElem_mem hq')).2 b hb
  · cases ha
theorem pw_bound {m : MachL} (hv : Valid m) (hs : Small m) (s : Nat) : ∀ (p : List Nat) (x : Nat × Int), pw m s p = some x → 0 ≤ x.2 ∧ x.2 ≤ p.length * 1000000 := by
  intro p
  induction p with
  | nil => intro x h; cases h; simp
  | cons i p ih =>
    intro x h
    cases hp : pw m s p with
    | none => rw [pw_cons_none hp] at h; cases h
    | some y =>
      rw [pw_cons (q := y.1) (c := y.2) hp] at h
      cases ha : (arcsAt m y.1)[i]? with
      | none => rw [ha] at h; cases h
      | some a =>
        rw [ha] at h
        cases h
        obtain ⟨hq, h2⟩ := arcsAt_lt (List.mem_of_getElem? ha)
        have h3 := ih y hp
        have h4 := ((hv.st _ (List.getElem_mem hq)).2 a h2).w0
        have h5 := (hs _ (List.getElem_mem hq)).2 a h2
        simp only [List.length_cons]
        omega
theorem whole_bound {m : MachL} (h : FwdSmall m) (hs : Small m) {p : List Nat} (hw : Whole m 0 p) : 0 ≤ wcost m 0 p ∧ wcost m 0 p ≤ 9000000 := by
  obtain ⟨x, hx⟩ := Option.isSome_iff_exists.1 hw.1
  have h1 := pw_fwd h.f h.v (show 0 < m.states.length from h.n1) p x hx
  have h2 := pw_bound h.v hs 0 p x hx
  have hf := hw.2
  unfold wcost
  rw [(pq_of hx).1] at hf
  rw [(pq_of hx).1, (pq_of hx).2]
  rw [finI_of h1.2] at hf ⊢
  have h3 := (hs _ (List.getElem_mem h1.2)).1.resolve_left hf
  have h4 := (h.v.st _ (List.getElem_mem h1.2)).1
  unfold ValidFinal at h4
  have := h.n8
  omega
end Go.Proofs.Ytndajklppipckaa

namespace Go.Proofs.Ytndajklppipckaa
open Go.RowKit

set_option maxRecDepth 100000 in
set_option maxHeartbeats 4000000 in
theorem Paths_none (v : Value) (m : MachL) (w : World) (hm : MachAt w v m) (hv : Valid m) (h0 : m.states.length = 0) (hns : ∀ S, ¬ Stuck m S) :
    Calls Try.prog 37 #[v] w fun e w' => e = .returned (.tuple #[.int .i64 0, .int .i64 0]) ∧ Below w.heap.size w w' := by
  have OR := Lib.hid (fun W (hb : Below w.heap.size w W) => Order_any v m W (hm.below hb) hv)
  obtain ⟨A, c, rfl, hS⟩ := hm
  have HNS := Lib.hid hns
  rw [h0] at OR ⊢
  have H0 := Lib.hid h0
  clear hS hv hns h0
  go_enter Try.func37, Try.ntmps37
  go_wp2_with fail
  refine (OR.out _ (by repeat' (first | exact Below.refl _ _ | assumption | refine Below.drew ?_ | refine Below.alloc ?_ (by first | omega | (simp; done) | (simp; omega)) _ | refine Below.setCell ?_ (by first | omega | (simp; done) | (simp; omega)) _))).mono ?_
  rintro e w1 ⟨hcase, r1⟩
  rcases hcase with ⟨sv, out, rfl, hTp, hO⟩ | ⟨rfl, S, hSt⟩
  case inr => exact (HNS.out S hSt).elim
  have b1 : Below w.heap.size w w1 := ((by repeat' (first | exact Below.refl _ _ | assumption | refine Below.drew ?_ | refine Below.alloc ?_ (by first | omega | (simp; done) | (simp; omega)) _ | refine Below.setCell ?_ (by first | omega | (simp; done) | (simp; omega)) _)) : Below w.heap.size w _).trans (r1.mono (by simp))
  have X1 : Blk w1 w.heap.size #[.int .i64 m.start, .slice A 0 c] 31 := Blk.step (Blk.new _ _ _) r1
  obtain ⟨Ao, co, rfl, -, -⟩ := own_form hO
  have hol : out.length = 0 := hTp.len.trans H0.out
  rw [hol]
  have hmk := run_make_elt eltIntO w1 0 (by omega) (by omega) (by omega)
  simp only [Value.cells, Nat.mul_one, madeInts0] at hmk
  replace hmk : (Instr.makeSlice 38 (.int .i64 0) (.int .i64 0)).run Try.prog w1 = .ok (.slice (some ⟨w1.heap.size, 0, none⟩) 0 0) (w1.alloc (.cells (intsA (List.replicate 0 0)) 3)) := hmk
  have k1 := X1.cell; have l1 := X1.lt
  clear r1 hO hTp hol OR HNS X1
  go_wp2_with fail
  have B0 : Below w.heap.size w (w1.alloc (.cells (intsA []) 3)) := b1.alloc b1.size _
  clear hmk k1 l1
  generalize w1.alloc (.cells (intsA []) 3) = w2 at *
  go_loopw [7, 26] (fun sv iv wr => iv = .int .i64 0 ∧ sv = .int .i64 0 ∧ wr = w2) (fun _ _ _ => 0)
  case atStart => exact ⟨rfl, rfl, rfl⟩
  case round =>
    obtain ⟨rfl, rfl, rfl⟩ := hrel
    go_wp2_with fail
    go_ret2
    exact ⟨rfl, B0⟩

set_option maxRecDepth 100000 in
set_option maxHeartbeats 4000000 in
theorem Costs_none (v : Value) (m : MachL) (n : Nat) (w : World) (hm : MachAt w v m) (hv : Valid m) (hs : ∀ q c, Way (endsFirst m) (endsE m) q c → ∃ c', Way (endsFirst m) (endsE m) q c' ∧ c' ≤ 1000000000) (h0 : m.start < 0) (hn : n ≤ 20)
    (hW : ∀ p, ¬ Whole m m.start.toNat p) :
    Calls Try.prog 28 #[v, .int .i64 n] w fun e w' => ∃ ov, e = .returned (.tuple #[ov, .int .i64 0]) ∧ CostsR m n w.heap.size w' ov ∧ Below w.heap.size w w' := by
  have CH := Lib.hid (fun W (hb : Below w.heap.size w W) => Check_ok v m W (hm.below hb) hv)
  have EN := Lib.hid (fun W (hb : Below w.heap.size w W) => Ends_any v m W (hm.below hb) hv hs)
  obtain ⟨A, c, rfl, hS⟩ := hm
  have hsz := hv.size
  have HR : Hid (∀ W, CostsR m n w.heap.size W (.slice none 0 0)) := Lib.hid (fun W => ⟨[], ⟨List.nodup_nil, by simp, by simp, List.Pairwise.nil, fun p hp => absurd hp (hW p)⟩, World.ownsRow_nil _ _ _ _⟩)
  clear hS hv hs hW
  have n0 : ¬ (↑n : Int) < 0 := by omega
  have n1 : ¬ 20 < (↑n : Int) := by omega
  have n2 : ¬ (0 : Int) ≤ m.start := by omega
  go_enter Try.func28, Try.ntmps28
  go_wp2_with fail
  refine (CH.out _ (by repeat' (first | exact Below.refl _ _ | assumption | refine Below.drew ?_ | refine Below.alloc ?_ (by first | omega | (simp; done) | (simp; omega)) _ | refine Below.setCell ?_ (by first | omega | (simp; done) | (simp; omega)) _))).mono ?_
  rintro e w1 ⟨rfl, r1⟩
  have M1 : Hid (Blk w1 w.heap.size #[.int .i64 m.start, .slice A m.states.length c] 31) := Lib.hid (Blk.step (Blk.new' (by simp)) r1)
  have b1 : Below w.heap.size w w1 := ((Below.refl _ _).alloc (Nat.le_refl _) _).trans (r1.mono (by simp))
  have k1 := M1.out.cell; have l1 := M1.out.lt
  clear r1 CH
  go_wp2_with fail
  refine (EN.out _ b1).mono ?_
  rintro e w2 ⟨sv, rfl, ⟨⟨db, dl, rfl, hD, hdb, hdl, hdd⟩⟩, r2⟩
  have M2 := Lib.hid (M1.out.step r2)
  have b2 := b1.trans (r2.mono b1.size)
  have k2 := M2.out.cell; have l2 := M2.out.lt
  clear k1 l1 M1 r2 EN b1 hD hdd hdl
  go_upto_region 13 with fail
  have BB : Blk (w2.alloc (.cells #[.slice none 0 0] 137)) w2.heap.size #[.slice none 0 0] 137 := Blk.new _ _ _
  have M3 := Lib.hid (M2.out.alloc (.cells #[.slice none 0 0] 137))
  have b3 := b2.alloc b2.size (.cells #[.slice none 0 0] 137)
  have k3 := M3.out.cell; have l3 := M3.out.lt
  clear M2 k2 l2
  generalize w2.alloc (.cells #[.slice none 0 0] 137) = w3 at *
  generalize w2.heap.size = B at *
  have hmk := run_make_elt eltInt w3 m.states.length (by omega) (by omega) (by omega)
  simp only [Value.cells, Nat.mul_one, madeInts] at hmk
  go_upto_region 14 with fail
  have B4 := BB.alloc (.cells (icellsA (List.replicate m.states.length 0)) 3)
  have b4 := b3.alloc b3.size (.cells (icellsA (List.replicate m.states.length 0)) 3)
  clear k3 l3 hmk BB
  generalize w3.alloc (.cells (icellsA (List.replicate m.states.length 0)) 3) = w4 at *
  generalize w3.heap.size = sb at *
  have kb := B4.cell; have lb := B4.lt
  go_loopg [9] 1 (fun g ov wx => ov = .slice none 0 0 ∧ wx = w4 ∧ g = 1)
  case atStart => exact ⟨rfl, rfl, rfl⟩
  case round =>
    obtain ⟨rfl, rfl, rfl⟩ := hrel
    go_wp2_with fail
    go_ret2
    exact ⟨_, rfl, HR.out _, b4⟩
end Go.Proofs.Ytndajklppipckaa
