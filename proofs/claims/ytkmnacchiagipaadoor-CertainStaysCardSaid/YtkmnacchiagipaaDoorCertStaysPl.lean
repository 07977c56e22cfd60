/- certain.Make of what it has made (plain): the same machine. -/
import Derived.Test.YtkmnacchiagipaaDoorCertPlain
namespace Go.Proofs.YtkmnacchiagipaaDoor
open Go.RowKit

theorem nd_inj {Ts : List SetL} (nd : Ts.Nodup) {i j : Nat} {T : SetL} (e : Ts[i]? = Ts[j]?) (hi : Ts[i]? = some T) : i = j := by
  have h1 := (List.getElem?_eq_some_iff.1 hi).1
  exact (List.getElem?_inj h1 nd).1 e
theorem num_step {Ts : List SetL} (nd : Ts.Nodup) : ∀ (al bs : List ArcL) (t t1 t2 : Nat), al.length = bs.length → (∀ (r : Nat) (a b : ArcL), al[r]? = some a → bs[r]? = some b → Ts[b.to.toNat]? = some [(a.to.toNat, 0)]) →
    runT t al = some t1 → runT t bs = some t2 → (∀ j, j < t → Ts[j]? = some [(j, 0)]) → t1 = t2 ∧ (∀ j, j < t1 → Ts[j]? = some [(j, 0)]) ∧ ∀ (r : Nat) (a b : ArcL), al[r]? = some a → bs[r]? = some b → b.to.toNat = a.to.toNat
  | [], [], t, t1, t2, _, _, h1, h2, h3 => by
    simp only [runT, Option.some.injEq] at h1 h2
    subst h1; subst h2
    exact ⟨rfl, h3, by simp⟩
  | [], b :: bs, t, t1, t2, hl, _, _, _, _ => by simp at hl
  | a :: al, [], t, t1, t2, hl, _, _, _, _ => by simp at hl
  | a :: al, b :: bs, t, t1, t2, hl, hT, h1, h2, h3 => by
    have h0 := hT 0 a b rfl rfl
    have hl' : al.length = bs.length := by simpa using hl
    have hT' : ∀ (r : Nat) (a b : ArcL), al[r]? = some a → bs[r]? = some b → Ts[b.to.toNat]? = some [(a.to.toNat, 0)] := fun r a' b' ha hb => hT (r + 1) a' b' (by simpa using ha) (by simpa using hb)
    simp only [runT] at h1 h2
    have fin : ∀ (e : b.to.toNat = a.to.toNat) (t' : Nat), runT t' al = some t1 → runT t' bs = some t2 → (∀ j, j < t' → Ts[j]? = some [(j, 0)]) → t1 = t2 ∧ (∀ j, j < t1 → Ts[j]? = some [(j, 0)]) ∧ ∀ (r : Nat) (a_1 b_1 : ArcL), (a :: al)[r]? = some a_1 → (b :: bs)[r]? = some b_1 → b_1.to.toNat = a_1.to.toNat := by
      intro e t' k1 k2 k3
      obtain ⟨g1, g2, g3⟩ := num_step nd al bs t' t1 t2 hl' hT' k1 k2 k3
      refine ⟨g1, g2, fun r a' b' ha hb => ?_⟩
      cases r with
      | zero =>
        simp only [List.getElem?_cons_zero, Option.some.injEq] at ha hb
        subst ha; subst hb; exact e
      | succ r => exact g3 r a' b' (by simpa using ha) (by simpa using hb)
    by_cases hb : b.to.toNat < t
    · rw [if_pos hb] at h2
      have e := h3 _ hb
      rw [h0] at e
      have e2 : a.to.toNat = b.to.toNat := by
        have := Option.some.inj e
        injection this with g _
        exact congrArg Prod.fst g
      rw [if_pos (by omega)] at h1
      exact fin e2.symm t h1 h2 h3
    · rw [if_neg hb] at h2
      by_cases hb2 : b.to.toNat = t
      · rw [if_pos hb2] at h2
        by_cases ha : a.to.toNat < t
        · exfalso
          have e := h3 _ ha
          have := nd_inj nd (h0.trans e.symm) h0
          omega
        · rw [if_neg ha] at h1
          by_cases ha2 : a.to.toNat = t
          · rw [if_pos ha2] at h1
            refine fin (by omega) (t + 1) h1 h2 fun j hj => ?_
            by_cases hjt : j < t
            · exact h3 j hjt
            · obtain rfl : j = t := by omega
              rw [hb2, ha2] at h0
              exact h0
          · rw [if_neg ha2] at h1; cases h1
      · rw [if_neg hb2] at h2; cases h2
section
variable {m x : MachL} {WW WW' : Int} {Ss Ts : List SetL} {ys : List StateL} {cur : List ArcL} {S : SetL} {ks : List (Int × Int)}
theorem keys_one (h : CertI m WW Ss x.states []) {i : Nat} (hi : i < x.states.length) : KeysS x [(i, 0)] ((x.states[i]).arcs.map kOf) := by
  obtain ⟨S, -, -, h3⟩ := h.st i _ (List.getElem?_eq_getElem hi)
  refine ⟨h3.keys.ord, fun k => ?_⟩
  constructor
  · intro hk
    obtain ⟨a, ha, rfl⟩ := List.mem_map.1 hk
    exact ⟨_, _, (i, 0), by simp, a, by rw [arcsQ_eq (List.getElem?_eq_getElem hi)]; exact ha, rfl, rfl, rfl, rfl⟩
  · rintro ⟨q, c, p, hp, a, ha, h1, h2, -, -⟩
    simp only [List.mem_singleton] at hp
    subst hp
    rw [arcsQ_eq (List.getElem?_eq_getElem hi)] at ha
    exact List.mem_map.2 ⟨a, ha, by unfold kOf; rw [h1, h2]⟩
/-- labels in order: an arc is known by them -/
theorem key_uniq : ∀ {al : List ArcL}, (al.map kOf).Pairwise keyLt → ∀ {a b : ArcL}, a ∈ al → b ∈ al → kOf a = kOf b → a = b
  | [], _, a, b, ha, _, _ => by cases ha
  | c :: al, h, a, b, ha, hb, e => by
    simp only [List.map_cons, List.pairwise_cons] at h
    rcases List.mem_cons.1 ha with ha | ha <;> rcases List.mem_cons.1 hb with hb | hb
    · rw [ha, hb]
    · have := h.1 (kOf b) (List.mem_map.2 ⟨b, hb, rfl⟩)
      rw [← e, ha] at this; unfold keyLt at this; omega
    · have := h.1 (kOf a) (List.mem_map.2 ⟨a, ha, rfl⟩)
      rw [e, hb] at this; unfold keyLt at this; omega
    · exact key_uniq h.2 ha hb e
theorem next_one (h : CertI m WW Ss x.states []) {i : Nat} (hi : i < x.states.length) {a : ArcL} (ha : a ∈ (x.states[i]).arcs) : NextS x [(i, 0)] a.inn a.out a.wt [(a.to.toNat, 0)] := by
  obtain ⟨S, -, -, h3⟩ := h.st i _ (List.getElem?_eq_getElem hi)
  have hca : ∀ q c, Cand x [(i, 0)] a.inn a.out q c ↔ q = a.to.toNat ∧ c = a.wt := by
    intro q c
    constructor
    · rintro ⟨p, hp, b, hb, h1, h2, h4, h5⟩
      simp only [List.mem_singleton] at hp
      subst hp
      rw [arcsQ_eq (List.getElem?_eq_getElem hi)] at hb
      obtain rfl := key_uniq h3.keys.ord hb ha (by unfold kOf; rw [h1, h2])
      simp only at h5
      exact ⟨h4.symm, by omega⟩
    · rintro ⟨rfl, rfl⟩
      exact ⟨(i, 0), by simp, a, by rw [arcsQ_eq (List.getElem?_eq_getElem hi)]; exact ha, rfl, rfl, rfl, by simp⟩
  refine ⟨by simp [SortedS], fun q l => ?_, ⟨_, by simp; rfl⟩, by simp⟩
  unfold MinC
  simp only [List.mem_singleton, Prod.mk.injEq, hca]
  constructor
  · rintro ⟨rfl, rfl⟩
    exact ⟨⟨rfl, by omega⟩, fun d hd => by omega⟩
  · rintro ⟨⟨rfl, h⟩, -⟩
    exact ⟨rfl, by omega⟩
theorem fin_one {i : Nat} (hi : i < x.states.length) {f : Int} (h : FinS x [(i, 0)] f) : f = (x.states[i]).final := by
  have e := finQ_eq (List.getElem?_eq_getElem hi)
  rcases h with ⟨h1, h2⟩ | ⟨h1, ⟨p, hp, h3, h4⟩, -⟩
  · have := h2 (i, 0) (by simp)
    simp only at this
    rw [h1, ← this, e]
  · simp only [List.mem_singleton] at hp
    subst hp
    simp only at h4
    rw [← h4, e]; omega
/-- the arcs of a state, and what is made of them -/
theorem arcs_one (h : CertI m WW Ss x.states []) (ht : Ts.Nodup) {i : Nat} (hi : i < x.states.length) {cur : List ArcL} (hk : cur.map kOf = (((x.states[i]).arcs.map kOf)).take cur.length) (hn : ∀ a ∈ cur, ArcN x Ts [(i, 0)] a)
    {t t1 t2 : Nat} (h1 : runT t ((x.states[i]).arcs.take cur.length) = some t1) (h2 : runT t cur = some t2) (h3 : ∀ j, j < t → Ts[j]? = some [(j, 0)]) (h0 : ∀ a ∈ (x.states[i]).arcs, 0 ≤ a.to) :
    t1 = t2 ∧ (∀ j, j < t1 → Ts[j]? = some [(j, 0)]) ∧ cur = (x.states[i]).arcs.take cur.length := by
  have hl : ((x.states[i]).arcs.take cur.length).length = cur.length := by
    have := congrArg List.length hk
    simp only [List.length_map, List.length_take] at this ⊢
    omega
  have hkey : ∀ (r : Nat) (a b : ArcL), ((x.states[i]).arcs.take cur.length)[r]? = some a → cur[r]? = some b → kOf b = kOf a ∧ a ∈ (x.states[i]).arcs ∧ b ∈ cur := by
    intro r a b ha hb
    have e := congrArg (·[r]?) hk
    simp only [List.getElem?_map, hb, Option.map_some] at e
    rw [← List.map_take, List.getElem?_map, ha] at e
    simp only [Option.map_some, Option.some.injEq] at e
    exact ⟨e, List.mem_of_mem_take (List.mem_of_getElem? ha), List.mem_of_getElem? hb⟩
  have hnx : ∀ (r : Nat) (a b : ArcL), ((x.states[i]).arcs.take cur.length)[r]? = some a → cur[r]? = some b → b.wt = a.wt ∧ 0 ≤ b.to ∧ Ts[b.to.toNat]? = some [(a.to.toNat, 0)] := by
    intro r a b ha hb
    obtain ⟨e, hm, hm2⟩ := hkey r a b ha hb
    obtain ⟨hb0, T, hT, hnb⟩ := hn b hm2
    unfold kOf at e
    injection e with e1 e2
    rw [e1, e2] at hnb
    obtain ⟨g1, g2⟩ := hnb.eq (next_one h hi hm)
    exact ⟨g1, hb0, by rw [hT, g2]⟩
  obtain ⟨g1, g2, g3⟩ := num_step ht _ _ t t1 t2 hl (fun r a b ha hb => (hnx r a b ha hb).2.2) h1 h2 h3
  refine ⟨g1, g2, List.ext_getElem? fun r => ?_⟩
  by_cases hr : r < cur.length
  · have hb : cur[r]? = some cur[r] := List.getElem?_eq_getElem hr
    have ha : ((x.states[i]).arcs.take cur.length)[r]? = some ((x.states[i]).arcs.take cur.length)[r] := List.getElem?_eq_getElem (by omega)
    rw [hb, ha]
    obtain ⟨e, hm, -⟩ := hkey r _ _ ha hb
    obtain ⟨e3, hb0, -⟩ := hnx r _ _ ha hb
    have e4 := g3 r _ _ ha hb
    have ha0 := h0 _ hm
    generalize ((x.states[i]).arcs.take cur.length)[r] = a at *
    generalize cur[r] = b at *
    unfold kOf at e
    injection e with e1 e2
    cases a; cases b
    simp only at e1 e2 e3 e4 hb0 ha0
    have e5 : ∀ {p q : Int}, 0 ≤ p → 0 ≤ q → p.toNat = q.toNat → p = q := fun h1 h2 h3 => by omega
    rw [e1, e2, e3, e5 hb0 ha0 e4]
  · rw [List.getElem?_eq_none (by omega), List.getElem?_eq_none (by omega)]
theorem runT_prefix {l l' : List ArcL} {t t' : Nat} (h : runT t (l ++ l') = some t') : ∃ s, runT t l = some s ∧ runT s l' = some t' ∧ s ≤ t' := by
  rw [runT_append] at h
  cases hs : runT t l with
  | none => rw [hs] at h; cases h
  | some s =>
    rw [hs] at h
    exact ⟨s, rfl, h, runT_le _ _ _ h⟩
theorem flat_split (xs : List StateL) {i : Nat} (hi : i < xs.length) : flatA xs = flatA (xs.take i) ++ ((xs[i]).arcs ++ flatA (xs.drop (i + 1))) := by
  have e : xs = xs.take i ++ (xs[i] :: xs.drop (i + 1)) := by rw [← List.drop_eq_getElem_cons hi, List.take_append_drop]
  calc flatA xs = flatA (xs.take i ++ (xs[i] :: xs.drop (i + 1))) := congrArg flatA e
    _ = _ := by simp only [flatA, List.flatMap_append, List.flatMap_cons]
theorem flat_take (xs : List StateL) {i : Nat} (hi : i < xs.length) : flatA (xs.take (i + 1)) = flatA (xs.take i) ++ (xs[i]).arcs := by
  rw [List.take_succ_eq_append_getElem hi, flatA_snoc]
/-- what is made, al far al it has come -/
theorem stays_stage (h : CertI m WW Ss x.states []) (hl : x.states.length = Ss.length) (h0 : x.start = 0) (hy : CertI x WW' Ts ys cur) (hc : cur = [] ∨ CurI x Ts ys S ks cur) :
    (∀ j, j < Ts.length → Ts[j]? = some [(j, 0)]) ∧ ys = x.states.take ys.length ∧ Ts.length ≤ x.states.length ∧ (flatA ys ++ cur).length ≤ arcsOf x.states := by
  have hcan := h.canon
  rw [List.append_nil] at hcan
  have hto : ∀ i (hi : i < x.states.length), ∀ a ∈ (x.states[i]).arcs, 0 ≤ a.to := fun i hi a ha => by
    obtain ⟨S, -, -, h3⟩ := h.st i _ (List.getElem?_eq_getElem hi)
    exact (h3.nx a ha).1
  have pre : ∀ i t, runT 1 (flatA (x.states.take i)) = some t → t ≤ x.states.length := by
    intro i t ht
    by_cases hi : i < x.states.length
    · rw [flat_split _ hi] at hcan
      obtain ⟨s, k1, -, k3⟩ := runT_prefix hcan
      rw [k1] at ht
      have := Option.some.inj ht
      omega
    · rw [List.take_of_length_le (by omega), hcan] at ht
      have := Option.some.inj ht
      omega
  have key : ∀ i, i ≤ ys.length → ys.take i = x.states.take i ∧ ∃ t, runT 1 (flatA (x.states.take i)) = some t ∧ ∀ j, j < t → Ts[j]? = some [(j, 0)] := by
    intro i
    induction i with
    | zero =>
      intro _
      refine ⟨by simp, 1, rfl, fun j hj => ?_⟩
      obtain rfl : j = 0 := by omega
      have := hy.first
      rw [h0] at this
      exact this
    | succ i ih =>
      intro hi
      obtain ⟨e, t, ht, hT⟩ := ih (by omega)
      obtain ⟨t', ht', hit⟩ := hy.cover i (by omega)
      rw [e, ht] at ht'
      obtain rfl := Option.some.inj ht'
      have hix : i < x.states.length := by have := pre i t ht; omega
      obtain ⟨S', g1, g2, g3⟩ := hy.st i _ (List.getElem?_eq_getElem (show i < ys.length by omega))
      rw [hT i hit] at g1
      obtain rfl := Option.some.inj g1
      have hk := g3.keys.eq (keys_one h hix)
      have hlen : (ys[i]).arcs.length = (x.states[i]).arcs.length := by simpa using congrArg List.length hk
      have hrx := hcan
      rw [flat_split _ hix] at hrx
      obtain ⟨s, k1, k2, -⟩ := runT_prefix hrx
      rw [ht] at k1
      obtain rfl := Option.some.inj k1
      obtain ⟨s2, k3, -, -⟩ := runT_prefix k2
      have hry : ∃ z, runT t (ys[i]).arcs = some z := by
        have h5 := hy.canon
        rw [flat_split ys (show i < ys.length by omega), List.append_assoc, e] at h5
        obtain ⟨s', k4, k5, -⟩ := runT_prefix h5
        rw [ht] at k4
        obtain rfl := Option.some.inj k4
        rw [List.append_assoc] at k5
        obtain ⟨s3, k6, -, -⟩ := runT_prefix k5
        exact ⟨s3, k6⟩
      obtain ⟨z, hz⟩ := hry
      obtain ⟨q1, q2, q3⟩ := arcs_one h hy.nd hix (cur := (ys[i]).arcs) (by rw [hk, hlen, List.take_of_length_le (by simp)]) g3.nx (by rw [hlen, List.take_length]; exact k3) hz hT (hto i hix)
      rw [hlen, List.take_length] at q3
      have q4 := fin_one hix g2
      have eS : ys[i] = x.states[i] := by
        generalize ys[i] = a at *
        generalize x.states[i] = b at *
        cases a; cases b
        simp only at q3 q4
        rw [q3, q4]
      refine ⟨?_, s2, ?_, q2⟩
      · rw [List.take_succ_eq_append_getElem (show i < ys.length by omega), List.take_succ_eq_append_getElem hix, e, eS]
      · rw [flat_take _ hix, runT_append, ht]
        exact k3
  obtain ⟨e, t, ht, hT⟩ := key ys.length (Nat.le_refl _)
  rw [List.take_length] at e
  have hcy := hy.canon
  rcases hc with rfl | hc
  · rw [List.append_nil] at hcy ⊢
    rw [e, ht] at hcy
    obtain rfl := Option.some.inj hcy
    refine ⟨hT, e, pre _ _ ht, ?_⟩
    rw [e, flatA_len]
    unfold arcsOf
    rw [List.map_take]
    have h5 := List.sum_append (l₁ := (x.states.map (fun s => s.arcs.length)).take ys.length) (l₂ := (x.states.map (fun s => s.arcs.length)).drop ys.length)
    rw [List.take_append_drop] at h5
    omega
  · obtain ⟨t', ht', hit⟩ := hc.beg
    rw [e, ht] at ht'
    obtain rfl := Option.some.inj ht'
    have hix : ys.length < x.states.length := by have := pre _ t ht; omega
    have hat := hc.at_
    rw [hT _ hit] at hat
    obtain rfl := Option.some.inj hat
    have hk := hc.keys.eq (keys_one h hix)
    have hrx := hcan
    rw [flat_split _ hix] at hrx
    obtain ⟨s, k1, k2, -⟩ := runT_prefix hrx
    rw [ht] at k1
    obtain rfl := Option.some.inj k1
    have hrx2 := k2
    rw [← List.take_append_drop cur.length (x.states[ys.length]).arcs, List.append_assoc] at k2
    obtain ⟨s2, k3, -, hs2⟩ := runT_prefix k2
    rw [e] at hcy
    obtain ⟨s4, k4, k5, -⟩ := runT_prefix hcy
    rw [ht] at k4
    obtain rfl := Option.some.inj k4
    obtain ⟨q1, q2, q3⟩ := arcs_one h hy.nd hix (cur := cur) (by rw [← hk]; exact hc.done) hc.nx k3 k5 hT (hto _ hix)
    subst q1
    refine ⟨q2, e, by omega, ?_⟩
    have h7 := congrArg List.length (flat_split x.states hix)
    rw [flatA_len] at h7
    simp only [List.length_append] at h7 ⊢
    have h8 := congrArg List.length q3
    rw [List.length_take] at h8
    have h9 : (flatA ys).length = (flatA (x.states.take ys.length)).length := by rw [← e]
    omega
theorem stays_done (h : CertI m WW Ss x.states []) (hl : x.states.length = Ss.length) (h0 : x.start = 0) {y : MachL} (hy : CertOk x WW' y) : y = x := by
  obtain ⟨hy0, Ts, hI, hyl⟩ := hy
  obtain ⟨h1, h2, h3, -⟩ := stays_stage (S := []) (ks := []) h hl h0 hI (.inl rfl)
  have h4 : y.states.length = x.states.length := by
    by_cases hlt : y.states.length < x.states.length
    · exfalso
      obtain ⟨t, ht, hit⟩ := h.cover _ hlt
      have h5 := hI.canon
      rw [List.append_nil, h2, ht] at h5
      have := Option.some.inj h5
      omega
    · omega
  rw [h4, List.take_length] at h2
  cases x; cases y
  simp only at h0 hy0 h2
  rw [h0, hy0, h2]
end
end Go.Proofs.YtkmnacchiagipaaDoor
