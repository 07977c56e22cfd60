/- certain.Make of a machine of at most four states whose arcs lead forward (plain): never too large. -/
/- certain.Make of a forward machine (plain): how many paths there are. -/
/- CertainAll's machine: each arc of a forward machine reads something. -/
import Derived.Test.YtkmnacchiagipaaDoorCertPlain
import Derived.Test.YtkmnacchiagipaaDoorMapRange
import Derived.Test.YtkmnacchiagipaaDoorSums
import Derived.Test.YtkmnacchiagipaaDoorMemSet
namespace Go.Proofs.YtkmnacchiagipaaDoor
open Go.RowKit

/-- a machine of at most four states whose arcs lead forward -/
structure FwdG (m : MachL) : Prop where
  n4 : m.states.length ≤ 4
  f : ∀ q, ∀ a ∈ arcsQ m q, q < a.to.toNat
  t : ∀ q, ∀ a ∈ arcsQ m q, a.to.toNat < m.states.length
  a4 : ∀ q, (arcsQ m q).length ≤ 4
  st : m.start = 0
theorem FwdG.none {m : MachL} (h : FwdG m) {q : Nat} (hq : 3 ≤ q) : arcsQ m q = [] := by
  cases he : arcsQ m q with
  | nil => rfl
  | cons a l =>
    have ha : a ∈ arcsQ m q := by rw [he]; simp
    have := h.f q a ha; have := h.t q a ha; have := h.n4
    omega
/-- the least state of a set -/
def muS (S : SetL) : Nat := match S with | [] => 0 | p :: _ => p.1
theorem muS_le {S : SetL} (hs : SortedS S) {p : Nat × Int} (hp : p ∈ S) : muS S ≤ p.1 := by
  cases S with
  | nil => cases hp
  | cons a l =>
    rcases List.mem_cons.1 hp with h | h
    · rw [h]; exact Nat.le_refl _
    · exact Nat.le_of_lt ((List.pairwise_cons.1 hs).1 p h)
theorem muS_mem {S : SetL} (h : S ≠ []) : ∃ l, (muS S, l) ∈ S := by
  cases S with
  | nil => exact absurd rfl h
  | cons a l => exact ⟨a.2, by simp [muS]⟩
theorem next_mu {m : MachL} (hf : FwdG m) {S T : SetL} {i o w : Int} (h : NextS m S i o w T) (hs : SortedS S) (hT : T ≠ []) : muS S < muS T := by
  obtain ⟨l, hl⟩ := muS_mem hT
  obtain ⟨r, hr, a, ha, -, -, h3⟩ := h.state hl
  have := hf.f _ a ha; have := muS_le hs hr
  simp only at h3
  omega
theorem next_max {m : MachL} (hf : FwdG m) {S T : SetL} {i o w : Int} (h : NextS m S i o w T) {p : Nat × Int} (hp : p ∈ T) : p.1 ≤ 3 := by
  obtain ⟨r, -, a, ha, -, -, h3⟩ := h.state hp
  have := hf.t _ a ha; have := hf.n4
  omega
theorem mu_three {m : MachL} (hf : FwdG m) {S T : SetL} {i o w : Int} (h : NextS m S i o w T) (hT : T ≠ []) (h3 : muS T = 3) : T = [(3, 0)] := by
  have hall : ∀ p ∈ T, p.1 = 3 := fun p hp => by
    have h1 := muS_le h.srt hp; have h2 := next_max hf h hp
    omega
  cases T with
  | nil => exact absurd rfl hT
  | cons a l =>
    have hl : l = [] := by
      cases l with
      | nil => rfl
      | cons b l =>
        have h4 := (List.pairwise_cons.1 h.srt).1 b (by simp)
        have h5 := hall a (by simp); have h6 := hall b (by simp)
        omega
    subst hl
    obtain ⟨q, hq⟩ := h.zero
    simp only [List.mem_singleton] at hq
    rw [← hq, show q = 3 from by have := hall (q, 0) (by rw [hq]; simp); simpa using this]
theorem runT_new : ∀ (l : List ArcL) (t t' : Nat), runT t l = some t' → ∀ j, t ≤ j → j < t' → ∃ a ∈ l, a.to.toNat = j
  | [], t, t', h, j, h1, h2 => by simp [runT] at h; omega
  | a :: l, t, t', h, j, h1, h2 => by
    simp only [runT] at h
    split at h
    · obtain ⟨b, hb, e⟩ := runT_new l t t' h j h1 h2
      exact ⟨b, by simp [hb], e⟩
    · split at h
      · rename_i h3
        by_cases hj : j = t
        · exact ⟨a, by simp, by omega⟩
        · obtain ⟨b, hb, e⟩ := runT_new l (t + 1) t' h j (by omega) h2
          exact ⟨b, by simp [hb], e⟩
      · cases h
/-- the arcs of a state, done or under way -/
def arcsI (xs : List StateL) (cur : List ArcL) (i : Nat) : List ArcL := (((xs ++ [⟨0, cur⟩])[i]?).map (·.arcs)).getD []
section
variable {m : MachL} {WW : Int} {Ss : List SetL} {xs : List StateL} {cur : List ArcL} {S : SetL} {ks : List (Int × Int)}
/-- an arc that is there comes of its state's set, and leads on from it -/
theorem arcsI_of (h : CertI m WW Ss xs cur) (hc : CurI m Ss xs S ks cur) {i : Nat} {a : ArcL} (ha : a ∈ arcsI xs cur i) : ∃ S', Ss[i]? = some S' ∧ ArcN m Ss S' a ∧ kOf a ∈ S'.flatMap (fun p => (arcsQ m p.1).map kOf) := by
  have key : ∀ {S' : SetL} {k : Int × Int}, (∃ q c, Cand m S' k.1 k.2 q c) → k ∈ S'.flatMap (fun p => (arcsQ m p.1).map kOf) := by
    rintro S' k ⟨q, c, p, hp, b, hb, h1, h2, -, -⟩
    exact List.mem_flatMap.2 ⟨p, hp, List.mem_map.2 ⟨b, hb, by unfold kOf; rw [h1, h2]⟩⟩
  unfold arcsI at ha
  by_cases hlt : i < xs.length
  · rw [List.getElem?_append_left hlt, List.getElem?_eq_getElem hlt] at ha
    simp only [Option.map_some, Option.getD_some] at ha
    obtain ⟨S', h1, -, h3⟩ := h.st i _ (List.getElem?_eq_getElem hlt)
    exact ⟨S', h1, h3.nx a ha, key ((h3.keys.mem _).1 (List.mem_map.2 ⟨a, ha, rfl⟩))⟩
  · by_cases he : i = xs.length
    · subst he
      simp only [List.getElem?_concat_length, Option.map_some, Option.getD_some] at ha
      refine ⟨S, hc.at_, hc.nx a ha, key ((hc.keys.mem _).1 ?_)⟩
      have h1 : kOf a ∈ cur.map kOf := List.mem_map.2 ⟨a, ha, rfl⟩
      rw [hc.done] at h1
      exact List.mem_of_mem_take h1
    · rw [List.getElem?_eq_none (by simp; omega)] at ha
      cases ha
theorem arcsI_nd (h : CertI m WW Ss xs cur) (hc : CurI m Ss xs S ks cur) (i : Nat) : ((arcsI xs cur i).map kOf).Nodup := by
  have nd : ∀ {l : List (Int × Int)}, l.Pairwise keyLt → l.Nodup := fun h => h.imp fun {a b} h e => by subst e; unfold keyLt at h; omega
  unfold arcsI
  by_cases hlt : i < xs.length
  · rw [List.getElem?_append_left hlt, List.getElem?_eq_getElem hlt]
    simp only [Option.map_some, Option.getD_some]
    obtain ⟨S', h1, -, h3⟩ := h.st i _ (List.getElem?_eq_getElem hlt)
    exact nd h3.keys.ord
  · by_cases he : i = xs.length
    · subst he
      simp only [List.getElem?_concat_length, Option.map_some, Option.getD_some]
      rw [hc.done]
      exact nd (hc.keys.ord.sublist (List.take_sublist _ _))
    · rw [List.getElem?_eq_none (by simp; omega)]
      exact List.nodup_nil
theorem outs_le (hf : FwdG m) : ∀ {S : SetL}, (S.flatMap (fun p => (arcsQ m p.1).map kOf)).length ≤ 4 * (S.filter (fun p => decide (p.1 < 3))).length
  | [] => by simp
  | p :: S => by
    have ih := outs_le hf (S := S)
    rw [List.flatMap_cons, List.length_append, List.length_map, List.filter_cons]
    by_cases hp : p.1 < 3
    · rw [if_pos (by simpa using hp), List.length_cons]
      have := hf.a4 p.1
      omega
    · rw [if_neg (by simpa using hp), hf.none (by omega), List.length_nil]
      omega
theorem low_le {S : SetL} (hs : SortedS S) : (S.filter (fun p => decide (p.1 < 3))).length ≤ 3 - muS S := by
  have h1 : ((S.filter (fun p => decide (p.1 < 3))).map (fun p => p.1 - muS S)).Nodup := by
    refine List.pairwise_map.2 (List.Pairwise.imp_of_mem ?_ (hs.sublist List.filter_sublist))
    intro a b ha hb hab e
    have := muS_le hs (List.mem_filter.1 ha).1; have := muS_le hs (List.mem_filter.1 hb).1
    omega
  have h2 := nodup_ltR (n := 3 - muS S) h1 fun i hi => by
    obtain ⟨p, hp, rfl⟩ := List.mem_map.1 hi
    have h3 := (List.mem_filter.1 hp).2
    have := muS_le hs (List.mem_filter.1 hp).1
    simp only [decide_eq_true_eq] at h3
    omega
  rwa [List.length_map] at h2
def muI (Ss : List SetL) (i : Nat) : Nat := muS ((Ss[i]?).getD [])
theorem arcsI_len (hf : FwdG m) (h : CertI m WW Ss xs cur) (hc : CurI m Ss xs S ks cur) (i : Nat) : (arcsI xs cur i).length ≤ 4 * (3 - muI Ss i) := by
  cases he : arcsI xs cur i with
  | nil => simp
  | cons a l =>
    obtain ⟨S', h1, -, -⟩ := arcsI_of h hc (i := i) (a := a) (by rw [he]; simp)
    have hsub : ∀ k ∈ (arcsI xs cur i).map kOf, k ∈ S'.flatMap (fun p => (arcsQ m p.1).map kOf) := fun k hk => by
      obtain ⟨b, hb, rfl⟩ := List.mem_map.1 hk
      obtain ⟨S2, h2, -, h3⟩ := arcsI_of h hc hb
      rw [h1] at h2
      rw [Option.some.inj h2]; exact h3
    have h4 := nodup_subR _ _ (arcsI_nd h hc i) hsub
    rw [List.length_map, he] at h4
    have h5 := outs_le hf (S := S')
    have h6 := low_le (h.srt S' (List.mem_of_getElem? h1))
    have h7 : muI Ss i = muS S' := by unfold muI; rw [h1]; rfl
    rw [h7]
    omega
theorem arcs_zero (hf : FwdG m) (h : CertI m WW Ss xs cur) (hc : CurI m Ss xs S ks cur) : (arcsI xs cur 0).length ≤ 4 := by
  cases he : arcsI xs cur 0 with
  | nil => simp
  | cons a l =>
    have h1 := h.first
    have hsub : ∀ k ∈ (arcsI xs cur 0).map kOf, k ∈ (arcsQ m 0).map kOf := fun k hk => by
      obtain ⟨b, hb, rfl⟩ := List.mem_map.1 hk
      obtain ⟨S2, h2, -, h3⟩ := arcsI_of h hc hb
      rw [h1, hf.st] at h2
      rw [← Option.some.inj h2] at h3
      simpa using h3
    have h4 := nodup_subR _ _ (arcsI_nd h hc 0) hsub
    rw [List.length_map, List.length_map, he] at h4
    have := hf.a4 0
    omega
/-- each set but the first one is met from one that begins with a lower state -/
theorem origin (hf : FwdG m) (h : CertI m WW Ss xs cur) (hc : CurI m Ss xs S ks cur) {j : Nat} (h1 : 1 ≤ j) (h2 : j < Ss.length) : ∃ i a S' T, a ∈ arcsI xs cur i ∧ a.to.toNat = j ∧ Ss[i]? = some S' ∧ Ss[j]? = some T ∧ NextS m S' a.inn a.out a.wt T ∧ muI Ss i < muI Ss j := by
  obtain ⟨a, ha, e⟩ := runT_new _ _ _ h.canon j h1 h2
  have hin : ∃ i, a ∈ arcsI xs cur i := by
    rcases List.mem_append.1 ha with ha | ha
    · obtain ⟨s, hs, hm⟩ := List.mem_flatMap.1 ha
      obtain ⟨i, hi⟩ := List.getElem?_of_mem hs
      have hil := (List.getElem?_eq_some_iff.1 hi).1
      exact ⟨i, by unfold arcsI; rw [List.getElem?_append_left hil, hi]; exact hm⟩
    · exact ⟨xs.length, by unfold arcsI; simpa using ha⟩
  obtain ⟨i, hi⟩ := hin
  obtain ⟨S', h3, ⟨-, T, h4, h5⟩, -⟩ := arcsI_of h hc hi
  rw [e] at h4
  have hT : T ≠ [] := (h.left j T h4).1
  refine ⟨i, a, S', T, hi, e, h3, h4, h5, ?_⟩
  have h6 := next_mu hf h5 (h.srt S' (List.mem_of_getElem? h3)) hT
  unfold muI
  rw [h3, h4]
  exact h6
theorem split4 (f : Nat → Nat) : ∀ (L : List Nat), (∀ i ∈ L, f i ≤ 3) → L.length = (L.filter (fun i => f i = 0)).length + (L.filter (fun i => f i = 1)).length + (L.filter (fun i => f i = 2)).length + (L.filter (fun i => f i = 3)).length
  | [], _ => by simp
  | i :: L, h => by
    have ih := split4 f L fun j hj => h j (List.mem_cons_of_mem _ hj)
    have hi := h i (by simp)
    simp only [List.filter_cons, List.length_cons]
    rcases (by omega : f i = 0 ∨ f i = 1 ∨ f i = 2 ∨ f i = 3) with e | e | e | e <;> simp only [e] <;> simp <;> omega
theorem sum4 (f a : Nat → Nat) : ∀ (L : List Nat), (∀ i ∈ L, f i ≤ 3 ∧ a i ≤ 4 * (3 - f i)) → (L.map a).sum ≤ 12 * (L.filter (fun i => f i = 0)).length + 8 * (L.filter (fun i => f i = 1)).length + 4 * (L.filter (fun i => f i = 2)).length
  | [], _ => by simp
  | i :: L, h => by
    have ih := sum4 f a L fun j hj => h j (List.mem_cons_of_mem _ hj)
    obtain ⟨hi, ha⟩ := h i (by simp)
    simp only [List.filter_cons, List.map_cons, List.sum_cons]
    rcases (by omega : f i = 0 ∨ f i = 1 ∨ f i = 2 ∨ f i = 3) with e | e | e | e <;> rw [e] at ha <;> simp only [e] <;> simp <;> omega
theorem never_full (hf : FwdG m) (h : CertI m WW Ss xs cur) (hc : CurI m Ss xs S ks cur) : (flatA xs ++ cur).length ≤ 400 ∧ Ss.length ≤ 60 := by
  have hpos : 0 < Ss.length := (List.getElem?_eq_some_iff.1 h.first).1
  have hmu0 : muI Ss 0 = 0 := by unfold muI; rw [h.first, hf.st]; rfl
  have hmu3 : ∀ i ∈ List.range Ss.length, muI Ss i ≤ 3 := fun i hi => by
    have hi2 := List.mem_range.1 hi
    by_cases h0 : i = 0
    · rw [h0, hmu0]; omega
    · obtain ⟨i', a, S', T, -, -, -, h4, h5, -⟩ := origin hf h hc (by omega) hi2
      obtain ⟨l, hl⟩ := muS_mem (h.left i T h4).1
      have := next_max hf h5 hl
      have e : muI Ss i = muS T := by unfold muI; rw [h4]; rfl
      simp only at this
      omega
  have ndU := List.nodup_range (n := Ss.length)
  have c0 : ((List.range Ss.length).filter (fun i => muI Ss i = 0)).length ≤ 1 := by
    have := nodup_subR ((List.range Ss.length).filter (fun i => muI Ss i = 0)) [0] (ndU.filter _) fun i hi => by
      obtain ⟨h1, h2⟩ := List.mem_filter.1 hi
      have h1 := List.mem_range.1 h1
      simp only [decide_eq_true_eq] at h2
      by_cases h0 : i = 0
      · simp [h0]
      · obtain ⟨i', a, S', T, -, -, -, -, -, h6⟩ := origin hf h hc (by omega) h1
        omega
    simpa using this
  have c1 : ((List.range Ss.length).filter (fun i => muI Ss i = 1)).length ≤ 4 := by
    have := nodup_subR ((List.range Ss.length).filter (fun i => muI Ss i = 1)) ((arcsI xs cur 0).map (fun a => a.to.toNat)) (ndU.filter _) fun i hi => by
      obtain ⟨h1, h2⟩ := List.mem_filter.1 hi
      have h1 := List.mem_range.1 h1
      simp only [decide_eq_true_eq] at h2
      have h0 : i ≠ 0 := fun e => by rw [e, hmu0] at h2; omega
      obtain ⟨i', a, S', T, k1, k2, k3, -, -, h6⟩ := origin hf h hc (by omega) h1
      have hi' : i' = 0 := by
        by_cases e : i' = 0
        · exact e
        · obtain ⟨i2, a2, S2, T2, -, -, -, -, -, h7⟩ := origin hf h hc (by omega) (List.getElem?_eq_some_iff.1 k3).1
          omega
      subst hi'
      exact List.mem_map.2 ⟨a, k1, k2⟩
    rw [List.length_map] at this
    have := arcs_zero hf h hc
    omega
  have c2 : ((List.range Ss.length).filter (fun i => muI Ss i = 2)).length ≤ 36 := by
    have := nodup_subR ((List.range Ss.length).filter (fun i => muI Ss i = 2)) ((arcsI xs cur 0).map (fun a => a.to.toNat) ++ ((List.range Ss.length).filter (fun i => muI Ss i = 1)).flatMap (fun i => (arcsI xs cur i).map (fun a => a.to.toNat))) (ndU.filter _) fun i hi => by
      obtain ⟨h1, h2⟩ := List.mem_filter.1 hi
      have h1 := List.mem_range.1 h1
      simp only [decide_eq_true_eq] at h2
      have h0 : i ≠ 0 := fun e => by rw [e, hmu0] at h2; omega
      obtain ⟨i', a, S', T, k1, k2, k3, -, -, h6⟩ := origin hf h hc (by omega) h1
      have hil := (List.getElem?_eq_some_iff.1 k3).1
      by_cases e : i' = 0
      · subst e
        exact List.mem_append_left _ (List.mem_map.2 ⟨a, k1, k2⟩)
      · obtain ⟨i2, a2, S2, T2, -, -, -, -, -, h7⟩ := origin hf h hc (by omega) hil
        exact List.mem_append_right _ (List.mem_flatMap.2 ⟨i', List.mem_filter.2 ⟨List.mem_range.2 hil, by simp only [decide_eq_true_eq]; omega⟩, List.mem_map.2 ⟨a, k1, k2⟩⟩)
    have hb : ∀ (L : List Nat), (∀ i ∈ L, muI Ss i = 1) → (L.flatMap (fun i => (arcsI xs cur i).map (fun a => a.to.toNat))).length ≤ 8 * L.length := by
      intro L
      induction L with
      | nil => intro _; simp
      | cons i L ih =>
        intro hL
        have h1 := ih fun j hj => hL j (List.mem_cons_of_mem _ hj)
        have h2 := arcsI_len hf h hc i
        rw [hL i (by simp)] at h2
        rw [List.flatMap_cons, List.length_append, List.length_map, List.length_cons]
        omega
    have h3 := hb ((List.range Ss.length).filter (fun i => muI Ss i = 1)) fun i hi => by
      have := (List.mem_filter.1 hi).2
      simpa using this
    rw [List.length_append, List.length_map] at this
    have := arcs_zero hf h hc
    omega
  have c3 : ((List.range Ss.length).filter (fun i => muI Ss i = 3)).length ≤ 1 := by
    have key : ∀ i ∈ (List.range Ss.length).filter (fun i => muI Ss i = 3), Ss[i]? = some [(3, 0)] := fun i hi => by
      obtain ⟨h1, h2⟩ := List.mem_filter.1 hi
      have h1 := List.mem_range.1 h1
      simp only [decide_eq_true_eq] at h2
      have h0 : i ≠ 0 := fun e => by rw [e, hmu0] at h2; omega
      obtain ⟨i', a, S', T, -, -, -, h4, h5, -⟩ := origin hf h hc (by omega) h1
      have e : muI Ss i = muS T := by unfold muI; rw [h4]; rfl
      rw [h4, mu_three hf h5 (h.left i T h4).1 (by omega)]
    have hnd := ndU.filter (fun i => decide (muI Ss i = 3))
    cases hL : (List.range Ss.length).filter (fun i => muI Ss i = 3) with
    | nil => simp
    | cons i L =>
      cases L with
      | nil => simp
      | cons j L =>
        exfalso
        rw [hL] at hnd key
        have e := nd_inj h.nd ((key i (by simp)).trans (key j (by simp)).symm) (key i (by simp))
        exact (List.nodup_cons.1 hnd).1 (by rw [e]; simp)
  have hsz := split4 (muI Ss) (List.range Ss.length) hmu3
  rw [List.length_range] at hsz
  refine ⟨?_, by omega⟩
  have hsum := sum4 (muI Ss) (fun i => (arcsI xs cur i).length) (List.range Ss.length) fun i hi => ⟨hmu3 i hi, arcsI_len hf h hc i⟩
  have hxl := (List.getElem?_eq_some_iff.1 hc.at_).1
  have hflat : (flatA xs ++ cur).length ≤ ((List.range Ss.length).map (fun i => (arcsI xs cur i).length)).sum := by
    have e : flatA xs ++ cur = flatA (xs ++ [⟨0, cur⟩]) := by rw [flatA_snoc]
    rw [e, flatA_len]
    have hle : ∀ (ys : List StateL) (N : Nat), ys.length ≤ N → arcsOf ys ≤ ((List.range N).map (fun i => (((ys[i]?).map (·.arcs)).getD []).length)).sum := by
      intro ys N hN
      have e2 : arcsOf ys = ((List.range ys.length).map (fun i => (((ys[i]?).map (·.arcs)).getD []).length)).sum := by
        unfold arcsOf
        congr 1
        refine List.ext_getElem (by simp) fun i h1 h2 => ?_
        have h3 : i < ys.length := by simpa using h1
        simp [h3]
      rw [e2]
      obtain ⟨d, rfl⟩ : ∃ d, N = ys.length + d := ⟨N - ys.length, by omega⟩
      rw [List.range_add, List.map_append, List.sum_append]
      exact Nat.le_add_right _ _
    exact hle (xs ++ [⟨0, cur⟩]) Ss.length (by simp; omega)
  omega
end
end Go.Proofs.YtkmnacchiagipaaDoor

namespace Go.Proofs.YtkmnacchiagipaaDoor
open Go.RowKit

theorem rank_stuck {m : MachL} (ρ : Nat → Nat) (h : ∀ p q, p < m.states.length → q ∈ tos m p → ρ p < ρ q) (S : Nat → Prop) : ¬ Stuck m S := by
  rintro ⟨⟨q, hq⟩, hS⟩
  have key : ∀ k q, ρ q < k → ¬ S q := by
    intro k
    induction k with
    | zero => intro q hk; omega
    | succ k ih =>
      intro q hk hq
      obtain ⟨-, p, hp, ht⟩ := hS q hq
      have := h p q (hS p hp).1 ht
      exact ih p (by omega) hp
  exact key _ q (Nat.lt_succ_self _) hq
theorem tos_arcsQ (m : MachL) (q : Nat) : tos m q = (arcsQ m q).map (fun a => a.to.toNat) := by
  unfold tos arcsQ
  cases m.states[q]? <;> rfl
theorem finB_finQ (m : MachL) (q : Nat) : finB m q = true ↔ finQ m q ≠ INF := by
  unfold finB finQ
  cases m.states[q]? with
  | none => simp
  | some s => simp [INF]
theorem sum_countC (n : Nat) (f : Nat → Nat) : ∀ (L : List Nat), (∀ x ∈ L, x < n) → (L.map f).sum = nsum n (fun t => f t * L.count t) := by
  intro L
  induction L with
  | nil => intro _; rw [nsum_zero_of (fun q _ => by simp)]; rfl
  | cons a L ih =>
    intro h
    rw [List.map_cons, List.sum_cons, ih (fun x hx => h x (by simp [hx]))]
    have e : nsum n (fun t => f t * (a :: L).count t) = nsum n (fun t => f t * L.count t + if t = a then f t else 0) := nsum_congr (fun t _ => by
      rw [List.count_cons]
      by_cases hta : t = a
      · subst hta; simp [Nat.mul_add]
      · have : ¬ a = t := fun e => hta e.symm
        simp [hta, this])
    rw [e, nsum_add, nsum_at (h a (by simp))]
    omega
theorem sub_sum {α : Type} [DecidableEq α] (g : α → Nat) : ∀ (L R : List α), L.Nodup → (∀ x ∈ L, x ∈ R) → (L.map g).sum ≤ (R.map g).sum
  | [], R, _, _ => by simp
  | x :: L, R, nd, h => by
    obtain ⟨h1, h2⟩ := List.nodup_cons.1 nd
    have hx := h x (by simp)
    have hp := List.perm_cons_erase hx
    have h3 := (hp.map g).sum_nat
    have h4 := sub_sum g L (R.erase x) h2 fun y hy => (List.mem_erase_of_ne (fun e => h1 (by rw [← e]; exact hy))).2 (h y (by simp [hy]))
    rw [List.map_cons, List.sum_cons] at *
    omega
theorem sum_flat {α β : Type} (f : α → List β) (g : β → Nat) : ∀ l : List α, ((l.flatMap f).map g).sum = (l.map (fun a => ((f a).map g).sum)).sum
  | [] => rfl
  | a :: l => by rw [List.flatMap_cons, List.map_append, List.sum_append, List.map_cons, List.sum_cons, sum_flat f g l]
theorem sum_add' {α : Type} (f g : α → Nat) : ∀ l : List α, (l.map (fun a => f a + g a)).sum = (l.map f).sum + (l.map g).sum
  | [] => rfl
  | a :: l => by simp only [List.map_cons, List.sum_cons, sum_add' f g l]; omega
theorem sum_mono' {α : Type} {f g : α → Nat} : ∀ {l : List α}, (∀ a ∈ l, f a ≤ g a) → (l.map f).sum ≤ (l.map g).sum
  | [], _ => Nat.le_refl _
  | a :: l, h => by
    have h1 := h a (by simp)
    have h2 := sum_mono' (l := l) fun b hb => h b (by simp [hb])
    simp only [List.map_cons, List.sum_cons]; omega
theorem mem_sum {α : Type} {f : α → Nat} : ∀ {l : List α} {a : α}, a ∈ l → f a ≤ (l.map f).sum
  | b :: l, a, h => by
    rcases List.mem_cons.1 h with h | h
    · subst h; simp
    · have := mem_sum (f := f) h
      simp only [List.map_cons, List.sum_cons]; omega
theorem sum_pos' {α : Type} {f : α → Nat} : ∀ {l : List α}, 0 < (l.map f).sum → ∃ a ∈ l, 0 < f a
  | [], h => by simp at h
  | a :: l, h => by
    simp only [List.map_cons, List.sum_cons] at h
    by_cases ha : 0 < f a
    · exact ⟨a, by simp, ha⟩
    · obtain ⟨b, hb, h1⟩ := sum_pos' (f := f) (l := l) (by omega)
      exact ⟨b, by simp [hb], h1⟩
/-- how many ways lead to an end -/
def BH (m : MachL) (B : Nat → Nat) : Prop := ∀ q, q < m.states.length → B q = (if finB m q = true then 1 else 0) + nsum m.states.length (fun t => B t * ad m q t)
def fin1C (m : MachL) (q : Nat) : Nat := if finB m q = true then 1 else 0
theorem BH.arcs {m : MachL} {B : Nat → Nat} (h : BH m B) (ht : ∀ q, ∀ a ∈ arcsQ m q, a.to.toNat < m.states.length) {q : Nat} (hq : q < m.states.length) : B q = fin1C m q + ((arcsQ m q).map (fun a => B a.to.toNat)).sum := by
  rw [h q hq]
  unfold fin1C ad
  rw [tos_arcsQ]
  have h1 := sum_countC m.states.length B ((arcsQ m q).map (fun a => a.to.toNat)) (fun x hx => by obtain ⟨a, ha, rfl⟩ := List.mem_map.1 hx; exact ht q a ha)
  rw [← h1, List.map_map]
  rfl
theorem BH.pos_of {m : MachL} {B : Nat → Nat} (h : BH m B) (ht : ∀ q, ∀ a ∈ arcsQ m q, a.to.toNat < m.states.length) {q : Nat} {u v : List Int} {c : Int} (ha : AccW m q u v c) : 0 < B q := by
  induction ha with
  | @fin q s hs hf =>
    have hq := (List.getElem?_eq_some_iff.1 hs).1
    have : finB m q = true := (finB_finQ m q).2 (by rw [finQ_eq hs]; exact hf)
    rw [h.arcs ht hq]
    unfold fin1C
    rw [if_pos this]
    omega
  | @arc q s a x y c hs ha _ ih =>
    have hq := (List.getElem?_eq_some_iff.1 hs).1
    rw [h.arcs ht hq]
    have := mem_sum (f := fun a : ArcL => B a.to.toNat) (show a ∈ arcsQ m q by rw [arcsQ_eq hs]; exact ha)
    omega
theorem BH.pos {m : MachL} {B : Nat → Nat} (h : BH m B) (hf : FwdG m) : ∀ k q, 4 - q < k → q < m.states.length → 0 < B q → ∃ u v c, AccW m q u v c := by
  intro k
  induction k with
  | zero => intro q hk; omega
  | succ k ih =>
    intro q hk hq hB
    have hs := List.getElem?_eq_getElem hq
    by_cases hb : finB m q = true
    · have := (finB_finQ m q).1 hb
      rw [finQ_eq hs] at this
      exact ⟨_, _, _, AccW.fin hs this⟩
    · rw [h.arcs hf.t hq] at hB
      unfold fin1C at hB
      rw [if_neg hb, Nat.zero_add] at hB
      obtain ⟨a, ha, h1⟩ := sum_pos' hB
      have h2 := hf.f q a ha; have h3 := hf.t q a ha; have h4 := hf.n4
      obtain ⟨u, v, c, hc⟩ := ih a.to.toNat (by omega) h3 h1
      rw [arcsQ_eq hs] at ha
      exact ⟨_, _, _, AccW.arc hs ha hc⟩
theorem nodup_keyed {T : ArcL → SetL} : ∀ {l : List ArcL}, (l.map kOf).Nodup → (∀ a ∈ l, SortedS (T a)) → (l.flatMap (fun a => (T a).map (fun p => (kOf a, p.1)))).Nodup
  | [], _, _ => by simp
  | a :: l, h, hs => by
    rw [List.map_cons, List.nodup_cons] at h
    rw [List.flatMap_cons, List.nodup_append]
    refine ⟨?_, nodup_keyed h.2 fun b hb => hs b (by simp [hb]), ?_⟩
    · refine List.pairwise_map.2 ((hs a (by simp)).imp fun {p q} h e => ?_)
      injection e with e1 e2
      omega
    · intro x hx y hy e
      subst e
      obtain ⟨p, -, rfl⟩ := List.mem_map.1 hx
      obtain ⟨b, hb, h2⟩ := List.mem_flatMap.1 hy
      obtain ⟨p', -, h3⟩ := List.mem_map.1 h2
      injection h3 with h3 h4
      exact h.1 (List.mem_map.2 ⟨b, hb, h3⟩)
section
variable {m x : MachL} {WW : Int} {Ss : List SetL} {Bm Bx : Nat → Nat}
theorem made_tgt (h : CertI m WW Ss x.states []) (hl : x.states.length = Ss.length) : ∀ q, ∀ a ∈ arcsQ x q, a.to.toNat < x.states.length := fun q a ha => by
  obtain ⟨s, hs, hm⟩ := arcsQ_mem ha
  obtain ⟨S, -, -, h3⟩ := h.st q s hs
  obtain ⟨-, T, h4, -⟩ := h3.nx a hm
  rw [hl]; exact (List.getElem?_eq_some_iff.1 h4).1
theorem behind_le (hf : FwdG m) (h : CertI m WW Ss x.states []) (hl : x.states.length = Ss.length) (hm : BH m Bm) (hx : BH x Bx) : ∀ k i S, 4 - muS S < k → Ss[i]? = some S → Bx i ≤ (S.map (fun p => Bm p.1)).sum := by
  intro k
  induction k with
  | zero => intro i S hk; omega
  | succ k ih =>
    intro i S hk hS
    have hil := (List.getElem?_eq_some_iff.1 hS).1
    have hix : i < x.states.length := by rw [hl]; exact hil
    obtain ⟨S', h1, h2, h3⟩ := h.st i _ (List.getElem?_eq_getElem hix)
    obtain rfl : S' = S := by rw [h1] at hS; exact Option.some.inj hS
    have hsr := h.srt S' (List.mem_of_getElem? h1)
    have hst := (h.left i S' h1).2
    have hne := (h.left i S' h1).1
    have ea : arcsQ x i = (x.states[i]).arcs := arcsQ_eq (List.getElem?_eq_getElem hix)
    rw [hx.arcs (made_tgt h hl) hix, ea]
    have hT : ∀ a ∈ (x.states[i]).arcs, ∃ T, Ss[a.to.toNat]? = some T ∧ NextS m S' a.inn a.out a.wt T ∧ Bx a.to.toNat ≤ ((((Ss[a.to.toNat]?).getD []).map (fun p => Bm p.1)).sum) := fun a ha => by
      obtain ⟨-, T, h4, h5⟩ := h3.nx a ha
      have h6 := (h.left _ T h4).1
      have h7 := next_mu hf h5 hsr h6
      obtain ⟨l, hl6⟩ := muS_mem h6
      have h8 := next_max hf h5 hl6
      simp only at h8
      refine ⟨T, h4, h5, ?_⟩
      rw [h4]
      exact ih _ T (by omega) h4
    have s1 : (((x.states[i]).arcs).map (fun a => Bx a.to.toNat)).sum ≤ (((x.states[i]).arcs).map (fun a => (((Ss[a.to.toNat]?).getD []).map (fun p => Bm p.1)).sum)).sum := sum_mono' fun a ha => by
      obtain ⟨T, -, -, h4⟩ := hT a ha
      exact h4
    have e1 : (((x.states[i]).arcs).map (fun a => (((Ss[a.to.toNat]?).getD []).map (fun p => Bm p.1)).sum)).sum = ((((x.states[i]).arcs).flatMap (fun a => ((Ss[a.to.toNat]?).getD []).map (fun p => (kOf a, p.1)))).map (fun y : (Int × Int) × Nat => Bm y.2)).sum := by
      rw [sum_flat]
      congr 1
      refine List.map_congr_left fun a _ => ?_
      rw [List.map_map]
      rfl
    have s2 := sub_sum (fun y : (Int × Int) × Nat => Bm y.2) (((x.states[i]).arcs).flatMap (fun a => ((Ss[a.to.toNat]?).getD []).map (fun p => (kOf a, p.1)))) (S'.flatMap (fun p => (arcsQ m p.1).map (fun b => (kOf b, b.to.toNat))))
      (nodup_keyed (T := fun a => (Ss[a.to.toNat]?).getD []) (h3.keys.ord.imp fun {a b} h e => by subst e; unfold keyLt at h; omega) fun a ha => by
        obtain ⟨T, h4, h5, -⟩ := hT a ha
        rw [h4]; exact h5.srt)
      (fun y hy => by
        obtain ⟨a, ha, h4⟩ := List.mem_flatMap.1 hy
        obtain ⟨p, hp, rfl⟩ := List.mem_map.1 h4
        obtain ⟨T, h5, h6, -⟩ := hT a ha
        rw [h5] at hp
        obtain ⟨r, hr, b, hb, e2, e3, e4⟩ := h6.state hp
        exact List.mem_flatMap.2 ⟨r, hr, List.mem_map.2 ⟨b, hb, by unfold kOf; rw [e2, e3, e4]⟩⟩)
    have e2 : ((S'.flatMap (fun p => (arcsQ m p.1).map (fun b => (kOf b, b.to.toNat)))).map (fun y : (Int × Int) × Nat => Bm y.2)).sum = (S'.map (fun p => ((arcsQ m p.1).map (fun b => Bm b.to.toNat)).sum)).sum := by
      rw [sum_flat]
      congr 1
      refine List.map_congr_left fun p _ => ?_
      rw [List.map_map]
      rfl
    have e3 : (S'.map (fun p => Bm p.1)).sum = (S'.map (fun p => fin1C m p.1)).sum + (S'.map (fun p => ((arcsQ m p.1).map (fun b => Bm b.to.toNat)).sum)).sum := by
      rw [← sum_add']
      congr 1
      exact List.map_congr_left fun p hp => hm.arcs hf.t (hst p hp).1
    have s3 : fin1C x i ≤ (S'.map (fun p => fin1C m p.1)).sum := by
      by_cases hb : finB x i = true
      · have h4 := (finB_finQ x i).1 hb
        rw [finQ_eq (List.getElem?_eq_getElem hix)] at h4
        rcases h2 with ⟨h5, -⟩ | ⟨-, ⟨p, hp, h5, -⟩, -⟩
        · exact absurd h5 h4
        · have h6 := mem_sum (f := fun p : Nat × Int => fin1C m p.1) hp
          have h7 : fin1C m p.1 = 1 := by unfold fin1C; rw [if_pos ((finB_finQ m p.1).2 h5)]
          have h8 : fin1C x i = 1 := by unfold fin1C; rw [if_pos hb]
          omega
      · unfold fin1C; rw [if_neg hb]; exact Nat.zero_le _
    omega
theorem made_rank (hf : FwdG m) (h : CertI m WW Ss x.states []) (p q : Nat) (hq : q ∈ tos x p) : muI Ss p < muI Ss q ∧ muI Ss q ≤ 3 := by
  rw [tos_arcsQ] at hq
  obtain ⟨a, ha, rfl⟩ := List.mem_map.1 hq
  obtain ⟨s, hs, hm⟩ := arcsQ_mem ha
  obtain ⟨S, h1, -, h3⟩ := h.st p s hs
  obtain ⟨-, T, h4, h5⟩ := h3.nx a hm
  have h6 := (h.left _ T h4).1
  have h7 := next_mu hf h5 (h.srt S (List.mem_of_getElem? h1)) h6
  obtain ⟨l, hl6⟩ := muS_mem h6
  have h8 := next_max hf h5 hl6
  simp only at h8
  unfold muI
  rw [h1, h4]
  exact ⟨h7, h8⟩
/-- counts of ways in a machine whose states have ranks -/
theorem rank_counts {y : MachL} (ρ : Nat → Nat) (N : Nat) (hN : ∀ q, q < y.states.length → ρ q < N) (hr : ∀ p q, q ∈ tos y p → ρ p < ρ q) (hn : 0 < y.states.length) (h0 : ρ 0 = 0) : ∃ M, Counts y 0 M := by
  obtain ⟨M, hM⟩ := counts_ex y.states.length N (fun q => if q = 0 then 1 else 0) (fun p q => ad y p q) ρ hN (fun p q _ _ hpq => hr p q (ad_mem hpq))
  refine ⟨M, ?_, hM⟩
  rw [hM 0 hn, if_pos rfl, nsum_zero_of fun p _ => ?_]
  by_cases hz : ad y p 0 = 0
  · rw [hz, Nat.mul_zero]
  · have := hr p 0 (ad_mem hz); omega
theorem rank_behind {y : MachL} (ρ : Nat → Nat) (N : Nat) (hN : ∀ q, q < y.states.length → ρ q < N) (hr : ∀ p q, q ∈ tos y p → ρ p < ρ q) : ∃ B, BH y B := by
  obtain ⟨B, hB⟩ := counts_ex y.states.length (N + 1) (fun q => if finB y q = true then 1 else 0) (fun p q => ad y q p) (fun q => N - ρ q) (fun q hq => by omega) (fun p q hp hq hpq => by have := hr q p (ad_mem hpq); have := hN p hp; omega)
  exact ⟨B, hB⟩
end
end Go.Proofs.YtkmnacchiagipaaDoor

namespace Go.Proofs.YtkmnacchiagipaaDoor
open Go.RowKit

def capA (a : ArcL) : ArcL := ⟨max a.inn 1, a.out, a.wt, a.to⟩
def capM (m : MachL) : MachL := ⟨m.start, m.states.map fun s => ⟨s.final, s.arcs.map capA⟩⟩
/-- the first q states' arcs are done, and the first t of state q -/
structure CapP (ss ss' : List StateL) (q t : Nat) : Prop where
  len : ss'.length = ss.length
  fin : ∀ (i : Nat) (s s' : StateL), ss[i]? = some s → ss'[i]? = some s' → s'.final = s.final ∧ s'.arcs.length = s.arcs.length
  arc : ∀ (i : Nat) (s s' : StateL), ss[i]? = some s → ss'[i]? = some s' → ∀ (j : Nat) (a a' : ArcL), s.arcs[j]? = some a → s'.arcs[j]? = some a' → ((i < q ∨ (i = q ∧ j < t)) → a' = capA a) ∧ (¬ (i < q ∨ (i = q ∧ j < t)) → a' = a)
theorem CapP.start (ss : List StateL) : CapP ss ss 0 0 := by
  refine ⟨rfl, fun i s s' h h' => ?_, fun i s s' h h' j a a' ha ha' => ?_⟩
  · rw [h] at h'; cases h'; exact ⟨rfl, rfl⟩
  · rw [h] at h'; cases h'
    rw [ha] at ha'; cases ha'
    exact ⟨fun g => by omega, fun _ => rfl⟩
theorem CapP.step {ss ss' : List StateL} {q t : Nat} (h : CapP ss ss' q t) (hq : q < ss'.length) (ht : t < ss'[q].arcs.length) :
    CapP ss (ss'.set q ⟨ss'[q].final, ss'[q].arcs.set t ⟨max ss'[q].arcs[t].inn 1, ss'[q].arcs[t].out, ss'[q].arcs[t].wt, ss'[q].arcs[t].to⟩⟩) q (t + 1) := by
  refine ⟨by rw [List.length_set]; exact h.len, fun i s s' h1 h2 => ?_, fun i s s' h1 h2 j a a' ha ha' => ?_⟩
  · by_cases e : q = i
    · subst e
      rw [List.getElem?_set_self hq] at h2
      cases h2
      have := h.fin q s _ h1 (List.getElem?_eq_getElem hq)
      simp only [List.length_set]
      exact this
    · rw [List.getElem?_set_ne e] at h2
      exact h.fin i s s' h1 h2
  · by_cases e : q = i
    · subst e
      rw [List.getElem?_set_self hq] at h2
      cases h2
      simp only at ha'
      have h3 := h.arc q s _ h1 (List.getElem?_eq_getElem hq)
      by_cases e2 : t = j
      · subst e2
        rw [List.getElem?_set_self ht] at ha'
        cases ha'
        have h4 := (h3 t a _ ha (List.getElem?_eq_getElem ht)).2 (by omega)
        rw [h4]
        exact ⟨fun _ => rfl, fun g => by omega⟩
      · rw [List.getElem?_set_ne e2] at ha'
        have h4 := h3 j a a' ha ha'
        exact ⟨fun g => h4.1 (by omega), fun g => h4.2 (by omega)⟩
    · rw [List.getElem?_set_ne e] at h2
      have h4 := h.arc i s s' h1 h2 j a a' ha ha'
      exact ⟨fun g => h4.1 (by omega), fun g => h4.2 (by omega)⟩
theorem CapP.next {ss ss' : List StateL} {q t : Nat} (h : CapP ss ss' q t) (hq : q < ss'.length) (ht : ss'[q].arcs.length ≤ t) : CapP ss ss' (q + 1) 0 := by
  refine ⟨h.len, h.fin, fun i s s' h1 h2 j a a' ha ha' => ?_⟩
  have h4 := h.arc i s s' h1 h2 j a a' ha ha'
  have hj := (List.getElem?_eq_some_iff.1 ha').1
  refine ⟨fun g => h4.1 ?_, fun g => h4.2 (by omega)⟩
  by_cases e : i = q
  · subst e
    rw [List.getElem?_eq_getElem hq] at h2
    cases h2
    exact .inr ⟨rfl, by omega⟩
  · exact .inl (by omega)
theorem CapP.done {ss ss' : List StateL} {q : Nat} (h : CapP ss ss' q 0) (hq : ss.length ≤ q) : ss' = ss.map fun s => ⟨s.final, s.arcs.map capA⟩ := by
  refine List.ext_getElem? fun i => ?_
  by_cases hi : i < ss.length
  · have hi' : i < ss'.length := by rw [h.len]; exact hi
    have h1 : ss[i]? = some ss[i] := List.getElem?_eq_getElem hi
    have h2 : ss'[i]? = some ss'[i] := List.getElem?_eq_getElem hi'
    rw [h2, List.getElem?_map, h1, Option.map_some]
    obtain ⟨h3, h4⟩ := h.fin i _ _ h1 h2
    have h5 : ss'[i].arcs = ss[i].arcs.map capA := by
      refine List.ext_getElem? fun j => ?_
      by_cases hj : j < ss[i].arcs.length
      · have k1 : ss[i].arcs[j]? = some ss[i].arcs[j] := List.getElem?_eq_getElem hj
        have k2 : ss'[i].arcs[j]? = some ss'[i].arcs[j] := List.getElem?_eq_getElem (by omega)
        rw [k2, List.getElem?_map, k1, Option.map_some, (h.arc i _ _ h1 h2 j _ _ k1 k2).1 (.inl (by omega))]
      · rw [List.getElem?_eq_none (by omega), List.getElem?_eq_none (by rw [List.length_map]; omega)]
    congr 1
    generalize ss'[i] = s' at *
    cases s'
    simp only at h3 h5
    rw [h3, h5]
  · rw [List.getElem?_eq_none (by rw [h.len]; omega), List.getElem?_eq_none (by rw [List.length_map]; omega)]
theorem arcsCells_set0 (l : List ArcL) (i : Nat) (hi : i < l.length) (x : Int) : (arcsCells l).set (i * 4) (.int .i64 x) = arcsCells (l.set i ⟨x, l[i].out, l[i].wt, l[i].to⟩) := by
  induction l generalizing i with
  | nil => simp at hi
  | cons p l ih =>
    cases i with
    | zero => simp [arcsCells, arcCells]
    | succ i =>
      have e : (i + 1) * 4 = (i * 4) + 1 + 1 + 1 + 1 := by omega
      have := ih i (by simpa using hi)
      simp only [arcsCells, List.flatMap_cons, arcCells, List.cons_append, List.nil_append, List.set_cons_succ, List.getElem_cons_succ, e] at this ⊢
      rw [this]
theorem OwnStV.setInn {w : World} {B g n c : Nat} {sv : Value} {vs : List Value} {ss : List StateL} (h : OwnStV w B sv vs ss) (ap : ApartV vs) (q : Nat) (hq : q < ss.length) (hq' : q < vs.length) (hv : vs[q] = .slice (some ⟨g, 0, none⟩) n c) (i : Nat) (hi : i < ss[q].arcs.length) (x : Int) :
    OwnStV (w.setCell ⟨g, i * 4, none⟩ (.int .i64 x)) B sv vs (ss.set q ⟨ss[q].final, ss[q].arcs.set i ⟨x, ss[q].arcs[i].out, ss[q].arcs[i].wt, ss[q].arcs[i].to⟩⟩) := by
  have k := h.arcs q hq hq'
  rw [hv] at k
  obtain ⟨hn, -⟩ := OwnArcs.at_ k
  subst hn
  have hr := (World.ownsRow.stored k (i * 4) (.int .i64 x)).1
  rw [arcsCells_set0 _ _ hi] at hr
  refine ⟨by simp [h.len], ?_, fun j hj hj' => ?_⟩
  · rw [final_set _ _ hq, List.length_set]
    refine own_setCell h.row ?_ _
    intro e
    rcases own_ne k h.row (by decide) with e2 | e2
    · simp [Value.ownBlock] at e2
    · exact e2 (by rw [e]; rfl)
  · by_cases e : q = j
    · subst e
      simp only [List.getElem_set_self]
      rw [hv]
      unfold OwnArcs
      rw [List.length_set]
      exact hr
    · rw [List.getElem_set_ne e]
      have k' := h.arcs j (by simpa using hj) hj'
      refine k'.setCell ?_ _
      intro e3
      rcases ap j q hj' hq' (fun e9 => e e9.symm) with e2 | e2
      · rw [e3] at e2; cases e2
      · exact e2 (by rw [e3, hv]; rfl)
theorem OwnStV.cellA {w : World} {B n c : Nat} {A : Option Addr} {vs : List Value} {ss : List StateL} (h : OwnStV w B (.slice A n c) vs ss) (i : Nat) (hi : i < ss.length) (hi' : i < vs.length) : w.cell? ⟨blk A, ofs A + i * 2 + 1, none⟩ = some vs[i] := by
  obtain ⟨hl, ho, ha⟩ := h
  have hn : n = ss.length := by
    obtain ⟨A', c', hv, -, -⟩ := own_form ho
    simp at hv; exact hv.2.1
  subst hn
  have r := Rd.of_own ho
  have hz : ((ss.map (·.final)).zip vs).length = ss.length := by simp [hl]
  have e := flatMap_at stCells 2 (fun _ => rfl) ((ss.map (·.final)).zip vs) i (by omega) 1 (by omega)
  simp only [List.getElem_zip, List.getElem_map] at e
  exact r.at' e
/-- the loop's memory -/
structure CapW (w : World) (B mb g n cap : Nat) (W : World) (vs : List Value) (ss ss' : List StateL) (q t : Nat) : Prop where
  mb : Blk W mb #[.int .i64 0, .slice (some ⟨g, 0, none⟩) n cap] 41
  own : OwnStV W B (.slice (some ⟨g, 0, none⟩) n cap) vs ss'
  bel : Below w.heap.size w W
  cp : CapP ss ss' q t
theorem CapW.step {w W : World} {B mb g n cap : Nat} {vs : List Value} {ss ss' : List StateL} {q t : Nat} (h : CapW w B mb g n cap W vs ss ss' q t) (hB : w.heap.size ≤ B) (ap : ApartV vs) (hq : q < ss'.length) (ht : t < ss'[q].arcs.length) (hq' : q < vs.length) {gq m c : Nat} (hv : vs[q] = .slice (some ⟨gq, 0, none⟩) m c) :
    ∃ ss2, CapW w B mb g n cap (W.setCell ⟨gq, t * 4, none⟩ (.int .i64 (max ss'[q].arcs[t].inn 1))) vs ss ss2 q (t + 1) := by
  have k := h.own.arcs q hq hq'
  rw [hv] at k
  have hlt := World.ownsRow.lt k gq rfl
  have hmk : W.heap[mb]? = some (.cells #[.int .i64 0, .slice (some ⟨g, 0, none⟩) n cap] 41 (0, 0)) := h.mb
  refine ⟨_, ⟨h.mb.far ?_ _, h.own.setInn ap q hq hq' hv t ht _, h.bel.setCell (by simp; omega) _, h.cp.step hq ht⟩⟩
  intro e
  simp only at e
  rcases k.2 with ⟨h2, _⟩ | ⟨g', cap', cur', h2, _, hg, _⟩
  · simp at h2
  · simp at h2
    obtain ⟨rfl, -, -⟩ := h2
    rw [← e, hmk] at hg
    simp at hg
end Go.Proofs.YtkmnacchiagipaaDoor
