/- Sums of naturals over the first numbers. -/
/- How many paths there are: what topo.Paths holds on its way (plain). -/
/- How many paths there are in a machine whose arcs lead forward (plain). -/
import Derived.Test.YtkmnacchiagipaaDoorOrderPlain
namespace Go.Proofs.YtkmnacchiagipaaDoor

def nsum (n : Nat) (f : Nat → Nat) : Nat := ((List.range n).map f).sum
theorem nsum_zero (f : Nat → Nat) : nsum 0 f = 0 := rfl
theorem nsum_succ (n : Nat) (f : Nat → Nat) : nsum (n + 1) f = nsum n f + f n := by simp [nsum, List.range_succ]
theorem nsum_congr {n : Nat} {f g : Nat → Nat} (h : ∀ q, q < n → f q = g q) : nsum n f = nsum n g := by
  induction n with
  | zero => rfl
  | succ n ih => rw [nsum_succ, nsum_succ, ih (fun q hq => h q (by omega)), h n (by omega)]
theorem nsum_const (n c : Nat) : nsum n (fun _ => c) = n * c := by
  induction n with
  | zero => simp [nsum_zero]
  | succ n ih => rw [nsum_succ, ih, Nat.add_mul]; omega
theorem nsum_add (n : Nat) (f g : Nat → Nat) : nsum n (fun q => f q + g q) = nsum n f + nsum n g := by
  induction n with
  | zero => rfl
  | succ n ih => simp only [nsum_succ, ih]; omega
theorem nsum_mul (n c : Nat) (f : Nat → Nat) : nsum n (fun q => c * f q) = c * nsum n f := by
  induction n with
  | zero => rfl
  | succ n ih => simp only [nsum_succ, ih, Nat.mul_add]
theorem nsum_mulr (n c : Nat) (f : Nat → Nat) : nsum n (fun q => f q * c) = nsum n f * c := by
  induction n with
  | zero => simp [nsum_zero]
  | succ n ih => simp only [nsum_succ, ih, Nat.add_mul]
theorem nsum_le {n : Nat} {f g : Nat → Nat} (h : ∀ q, q < n → f q ≤ g q) : nsum n f ≤ nsum n g := by
  induction n with
  | zero => exact Nat.le_refl _
  | succ n ih =>
    have h1 := ih (fun q hq => h q (by omega))
    have h2 := h n (by omega)
    rw [nsum_succ, nsum_succ]; omega
theorem nsum_comm (n k : Nat) (f : Nat → Nat → Nat) : nsum n (fun p => nsum k (fun q => f p q)) = nsum k (fun q => nsum n (fun p => f p q)) := by
  induction n with
  | zero => simp only [nsum_zero]; rw [nsum_const]; simp
  | succ n ih => simp only [nsum_succ, ih, nsum_add]
theorem nsum_at {n s : Nat} (hs : s < n) (f : Nat → Nat) : nsum n (fun q => if q = s then f q else 0) = f s := by
  induction n with
  | zero => omega
  | succ n ih =>
    rw [nsum_succ]
    by_cases e : n = s
    · subst e
      rw [if_pos rfl, nsum_congr (g := fun _ => 0) (fun q hq => if_neg (by omega)), nsum_const]
      simp
    · rw [if_neg e, ih (by omega)]; rfl
theorem nsum_zero_of {n : Nat} {f : Nat → Nat} (h : ∀ q, q < n → f q = 0) : nsum n f = 0 := by
  rw [nsum_congr (g := fun _ => 0) h, nsum_const]; simp
theorem nsum_ge {n q : Nat} (hq : q < n) (f : Nat → Nat) : f q ≤ nsum n f := by
  induction n with
  | zero => omega
  | succ n ih =>
    rw [nsum_succ]
    by_cases e : n = q
    · subst e; omega
    · have := ih (by omega); omega
theorem nsum_eq_zero {n : Nat} {f : Nat → Nat} (h : nsum n f = 0) (q : Nat) (hq : q < n) : f q = 0 := by
  have := nsum_ge hq f; omega
/-- the first one apart -/
theorem nsum_first (n : Nat) (f : Nat → Nat) : nsum (n + 1) f = f 0 + nsum n (fun q => f (q + 1)) := by
  induction n with
  | zero => simp [nsum_succ, nsum_zero]
  | succ n ih => rw [nsum_succ, ih, nsum_succ]; omega
theorem nsum_app (n k : Nat) (f : Nat → Nat) : nsum (n + k) f = nsum n f + nsum k (fun q => f (n + q)) := by
  induction k with
  | zero => simp [nsum_zero]
  | succ k ih => rw [← Nat.add_assoc, nsum_succ, ih, nsum_succ]; omega
theorem nsum_of_perm {n : Nat} {out : List Nat} (hd : out.Nodup) (hm : ∀ q, q ∈ out ↔ q < n) (f : Nat → Nat) : nsum n f = (out.map f).sum := by
  have hp : out.Perm (List.range n) := (List.perm_ext_iff_of_nodup hd List.nodup_range).2 (fun q => by rw [hm, List.mem_range])
  exact ((hp.map f).sum_nat).symm
theorem sum_zero_of {L : List Nat} {f : Nat → Nat} (h : ∀ q ∈ L, f q = 0) : (L.map f).sum = 0 := by
  induction L with
  | nil => rfl
  | cons a L ih => rw [List.map_cons, List.sum_cons, h a (by simp), ih (fun q hq => h q (by simp [hq]))]
/-- numbers that are the sums of those that lead to them -/
theorem counts_ex (n N : Nat) (g : Nat → Nat) (a : Nat → Nat → Nat) (rank : Nat → Nat) (hN : ∀ q, q < n → rank q < N) (h : ∀ p q, p < n → q < n → a p q ≠ 0 → rank p < rank q) : ∃ M : Nat → Nat, ∀ q, q < n → M q = g q + nsum n (fun p => M p * a p q) := by
  have key : ∀ R, ∃ M : Nat → Nat, ∀ q, q < n → rank q < R → M q = g q + nsum n (fun p => M p * a p q) := by
    intro R
    induction R with
    | zero => exact ⟨fun _ => 0, fun q _ h => by omega⟩
    | succ R ih =>
      obtain ⟨M, hM⟩ := ih
      refine ⟨fun q => if rank q = R then g q + nsum n (fun p => M p * a p q) else M q, fun q hq hr => ?_⟩
      have e : nsum n (fun p => (if rank p = R then g p + nsum n (fun p' => M p' * a p' p) else M p) * a p q) = nsum n (fun p => M p * a p q) := nsum_congr fun p hp => by
        by_cases hz : a p q = 0
        · rw [hz]; simp
        · have := h p q hp hq hz
          rw [if_neg (by omega)]
      show (if rank q = R then g q + nsum n (fun p => M p * a p q) else M q) = _
      rw [e]
      by_cases hR : rank q = R
      · rw [if_pos hR]
      · rw [if_neg hR]; exact hM q hq (by omega)
  obtain ⟨M, hM⟩ := key N
  exact ⟨M, fun q hq => hM q hq (hN q hq)⟩
end Go.Proofs.YtkmnacchiagipaaDoor

namespace Go.Proofs.YtkmnacchiagipaaDoor

def ad (m : MachL) (p q : Nat) : Nat := (tos m p).count q
def finB (m : MachL) (q : Nat) : Bool := ((m.states[q]?).map (fun s => s.final != 1000000001)).getD false
/-- M: how many ways lead from the start to each state -/
structure Counts (m : MachL) (s : Nat) (M : Nat → Nat) : Prop where
  one : M s = 1
  eq : ∀ q, q < m.states.length → M q = (if q = s then 1 else 0) + nsum m.states.length (fun p => M p * ad m p q)
def tot (m : MachL) (M : Nat → Nat) : Nat := nsum m.states.length (fun q => if finB m q = true then M q else 0)
def psum (m : MachL) (M : Nat → Nat) (pre : List Nat) (r : Nat) : Nat := (pre.map (fun p => M p * ad m p r)).sum
def fsum (m : MachL) (M : Nat → Nat) (pre : List Nat) : Nat := (pre.map (fun q => if finB m q = true then M q else 0)).sum

theorem ad_mem {m : MachL} {p q : Nat} (h : ad m p q ≠ 0) : q ∈ tos m p := by
  unfold ad at h
  exact List.count_pos_iff.1 (by omega)
theorem psum_snoc (m : MachL) (M : Nat → Nat) (pre : List Nat) (q r : Nat) : psum m M (pre ++ [q]) r = psum m M pre r + M q * ad m q r := by simp [psum]
theorem fsum_snoc (m : MachL) (M : Nat → Nat) (pre : List Nat) (q : Nat) : fsum m M (pre ++ [q]) = fsum m M pre + (if finB m q = true then M q else 0) := by simp [fsum]

section
variable {m : MachL} {out : List Nat} {M : Nat → Nat} {s : Nat}
theorem IsTopo.iff (h : IsTopo m out) (q : Nat) : q ∈ out ↔ q < m.states.length := ⟨h.lt q, h.all q⟩
theorem IsTopo.sum (h : IsTopo m out) (f : Nat → Nat) : nsum m.states.length f = (out.map f).sum := nsum_of_perm h.nd h.iff f
theorem IsTopo.notin (h : IsTopo m out) {pre post : List Nat} {q : Nat} (e : out = pre ++ q :: post) {t : Nat} (ht : t ∈ tos m q) (htn : t < m.states.length) : t ∉ pre ++ [q] := by
  have h1 := h.idx htn ht
  have hd := h.nd
  intro hm
  have hq : q ∉ pre := fun hx => by
    rw [e] at hd
    exact (List.nodup_append.1 hd).2.2 q hx q (by simp) rfl
  have h2 : out.idxOf q = pre.length := by
    rw [e, List.idxOf_append, if_neg hq]; simp
  have h3 : out.idxOf t ≤ pre.length := by
    rw [e]
    rcases List.mem_append.1 hm with h4 | h4
    · rw [List.idxOf_append, if_pos h4]
      exact Nat.le_of_lt (List.idxOf_lt_length_of_mem h4)
    · simp at h4
      subst h4
      rw [List.idxOf_append, if_neg hq]; simp
  omega
theorem psum_full (h : IsTopo m out) {pre post : List Nat} {q : Nat} (e : out = pre ++ q :: post) : psum m M pre q = nsum m.states.length (fun p => M p * ad m p q) := by
  rw [h.sum, e, List.map_append, List.sum_append]
  have hz : ((q :: post).map (fun p => M p * ad m p q)).sum = 0 := sum_zero_of fun p hp => by
    by_cases hz : ad m p q = 0
    · rw [hz]; simp
    · have hpo : p ∈ out := by rw [e]; exact List.mem_append_right _ hp
      have hqo : q < m.states.length := h.lt q (by rw [e]; simp)
      have h1 := h.ord pre q post e p (h.lt p hpo) (ad_mem hz)
      have hd := h.nd
      rw [e] at hd
      exact absurd rfl ((List.nodup_append.1 hd).2.2 p h1 p hp)
  rw [hz]; rfl
theorem psum_le (h : IsTopo m out) {pre post : List Nat} (e : out = pre ++ post) (r : Nat) : psum m M pre r ≤ nsum m.states.length (fun p => M p * ad m p r) := by
  rw [h.sum, e, List.map_append, List.sum_append]
  exact Nat.le_add_right _ _
theorem fsum_le (h : IsTopo m out) {pre post : List Nat} (e : out = pre ++ post) : fsum m M pre ≤ tot m M := by
  unfold tot
  rw [h.sum, e, List.map_append, List.sum_append]
  exact Nat.le_add_right _ _
theorem fsum_full (h : IsTopo m out) : fsum m M out = tot m M := by
  unfold tot
  rw [h.sum]; rfl

/-- behind the states pre -/
def PInv (m : MachL) (M : Nat → Nat) (pre : List Nat) (many : List Int) : Prop := many.length = m.states.length ∧ ∀ r, r < m.states.length → many.getD r 0 = ((if r ∈ pre then M r else psum m M pre r : Nat) : Int)
/-- .. within state q, behind t of its arcs -/
def PIn (m : MachL) (M : Nat → Nat) (pre : List Nat) (q t : Nat) (many : List Int) : Prop := many.length = m.states.length ∧ ∀ r, r < m.states.length → many.getD r 0 = ((if r ∈ pre ++ [q] then M r else psum m M pre r + M q * ((tos m q).take t).count r : Nat) : Int)

theorem PInv.zero (m : MachL) (M : Nat → Nat) : PInv m M [] (List.replicate m.states.length 0) := by
  refine ⟨by simp, fun r hr => ?_⟩
  simp [psum, List.getD_eq_getElem?_getD, hr]
theorem getDset (l : List Int) (q : Nat) (x : Int) (h : q < l.length) (r : Nat) : (l.set q x).getD r 0 = if r = q then x else l.getD r 0 := by
  simp only [List.getD_eq_getElem?_getD]
  by_cases e : r = q
  · subst e; simp [h]
  · rw [List.getElem?_set_ne (fun h => e h.symm), if_neg e]
/-- what stands at q when its turn comes -/
theorem PInv.turn (h : IsTopo m out) (hC : Counts m s M) {pre post : List Nat} {q : Nat} (e : out = pre ++ q :: post) {many : List Int} (hI : PInv m M pre many) (hq : q ≠ s) : many.getD q 0 = (M q : Int) ∧ PIn m M pre q 0 many := by
  have hqn : q < m.states.length := h.lt q (by rw [e]; simp)
  have hnp : q ∉ pre := fun hx => by
    have hd := h.nd
    rw [e] at hd
    exact (List.nodup_append.1 hd).2.2 q hx q (by simp) rfl
  have h1 : psum m M pre q = M q := by
    have := hC.eq q hqn
    rw [if_neg hq] at this
    rw [psum_full h e]; omega
  have h2 := hI.2 q hqn
  rw [if_neg hnp, h1] at h2
  refine ⟨h2, hI.1, fun r hr => ?_⟩
  by_cases er : r = q
  · subst er
    rw [if_pos (by simp)]; exact h2
  · rw [hI.2 r hr]
    simp [er]
theorem PInv.turn1 (h : IsTopo m out) (hC : Counts m s M) {pre post : List Nat} (e : out = pre ++ s :: post) {many : List Int} (hI : PInv m M pre many) : PIn m M pre s 0 (many.set s 1) := by
  have hsn : s < m.states.length := h.lt s (by rw [e]; simp)
  refine ⟨by rw [List.length_set]; exact hI.1, fun r hr => ?_⟩
  rw [getDset _ _ _ (by rw [hI.1]; exact hsn)]
  by_cases er : r = s
  · subst er
    rw [if_pos rfl, if_pos (by simp), hC.one]; rfl
  · rw [if_neg er, hI.2 r hr]
    simp [er]
theorem PIn.at_q {pre : List Nat} {q t : Nat} {many : List Int} (hI : PIn m M pre q t many) (hq : q < m.states.length) : many.getD q 0 = (M q : Int) := by
  rw [hI.2 q hq, if_pos (by simp)]
theorem PIn.step (h : IsTopo m out) (hC : Counts m s M) {pre post : List Nat} {q : Nat} (e : out = pre ++ q :: post) {t tt : Nat} {many : List Int} (hI : PIn m M pre q t many) (ht : t < (tos m q).length) (hto : (tos m q)[t] = tt) (hn : tt < m.states.length) :
    ∃ x : Nat, many.getD tt 0 = (x : Int) ∧ x + M q ≤ M tt ∧ PIn m M pre q (t + 1) (many.set tt ((x : Int) + (M q : Nat))) := by
  have hmem : tt ∈ tos m q := by rw [← hto]; exact List.getElem_mem ht
  have hni := h.notin e hmem hn
  have htk : (tos m q).take (t + 1) = (tos m q).take t ++ [tt] := by rw [List.take_succ_eq_append_getElem ht, hto]
  refine ⟨psum m M pre tt + M q * ((tos m q).take t).count tt, ?_, ?_, by rw [List.length_set]; exact hI.1, fun r hr => ?_⟩
  · rw [hI.2 tt hn, if_neg hni]
  · have h1 := psum_le (M := M) h (show out = (pre ++ [q]) ++ post by rw [e]; simp) tt
    rw [psum_snoc] at h1
    have h2 := hC.eq tt hn
    have h3 : ((tos m q).take (t + 1)).count tt ≤ (tos m q).count tt := (List.take_sublist _ _).count_le tt
    rw [htk, List.count_append, List.count_singleton_self] at h3
    have h4 : M q * (((tos m q).take t).count tt + 1) ≤ M q * ad m q tt := Nat.mul_le_mul_left _ h3
    rw [Nat.mul_add] at h4
    omega
  · rw [getDset _ _ _ (by rw [hI.1]; exact hn)]
    by_cases er : r = tt
    · subst er
      rw [if_pos rfl, if_neg hni, htk, List.count_append, List.count_singleton_self, Nat.mul_add]
      omega
    · rw [if_neg er, hI.2 r hr, htk, List.count_append, List.count_singleton]
      have : (tt == r) = false := by simpa using fun h => er h.symm
      rw [this]
      simp
theorem PIn.done {pre : List Nat} {q : Nat} {many : List Int} (hI : PIn m M pre q (tos m q).length many) : PInv m M (pre ++ [q]) many := by
  refine ⟨hI.1, fun r hr => ?_⟩
  rw [hI.2 r hr, psum_snoc, List.take_length]
  rfl
end
end Go.Proofs.YtkmnacchiagipaaDoor

namespace Go.Proofs.YtkmnacchiagipaaDoor

theorem nsum_le_part {n q : Nat} (hq : q ≤ n) {f g : Nat → Nat} (h0 : ∀ p, p < n → q ≤ p → f p = 0) (h1 : ∀ p, p < q → f p ≤ g p) : nsum n f ≤ nsum q g := by
  obtain ⟨k, rfl⟩ : ∃ k, n = q + k := ⟨n - q, by omega⟩
  rw [nsum_app, nsum_zero_of (n := k) (fun p hp => h0 (q + p) (by omega) (by omega))]
  exact nsum_le h1
theorem nsum_count (n : Nat) (L : List Nat) : nsum n (fun t => L.count t) ≤ L.length := by
  induction L with
  | nil => rw [nsum_zero_of (fun q _ => by simp)]; simp
  | cons a L ih =>
    have e : nsum n (fun t => (a :: L).count t) = nsum n (fun t => L.count t) + nsum n (fun t => if t = a then 1 else 0) := by
      rw [← nsum_add]
      refine nsum_congr fun q _ => ?_
      rw [List.count_cons]
      by_cases h : a = q
      · subst h; simp
      · have h2 : ¬ (q = a) := fun h' => h h'.symm
        simp [h, h2]
    rw [e]
    have : nsum n (fun t => if t = a then 1 else 0) ≤ 1 := by
      rcases Nat.lt_or_ge a n with h | h
      · rw [nsum_at h (fun _ => 1)]; exact Nat.le_refl _
      · rw [nsum_zero_of (fun q hq => if_neg (by omega))]; omega
    simp only [List.length_cons]
    omega
theorem nsum_pow (q : Nat) : nsum q (fun p => 5 ^ p * 4) + 1 = 5 ^ q := by
  induction q with
  | zero => rfl
  | succ q ih => rw [nsum_succ, Nat.pow_succ]; omega
/-- a machine of few states whose arcs lead forward from state 0 -/
structure FwdSmall (m : MachL) : Prop where
  v : Valid m
  f : Fwd m
  n1 : 1 ≤ m.states.length
  n8 : m.states.length ≤ 8
  s0 : m.start = 0
  a4 : ∀ s ∈ m.states, s.arcs.length ≤ 4
theorem ad_le {m : MachL} (h : FwdSmall m) (p q : Nat) : ad m p q ≤ 4 := by
  unfold ad
  refine Nat.le_trans List.count_le_length ?_
  unfold tos
  rcases Nat.lt_or_ge p m.states.length with hp | hp
  · rw [List.getElem?_eq_getElem hp]
    simp only [Option.map_some, Option.getD_some, List.length_map]
    exact h.a4 _ (List.getElem_mem hp)
  · rw [List.getElem?_eq_none hp]; simp
theorem tos_le {m : MachL} (h : FwdSmall m) (p : Nat) : (tos m p).length ≤ 4 := by
  unfold tos
  rcases Nat.lt_or_ge p m.states.length with hp | hp
  · rw [List.getElem?_eq_getElem hp]
    simp only [Option.map_some, Option.getD_some, List.length_map]
    exact h.a4 _ (List.getElem_mem hp)
  · rw [List.getElem?_eq_none hp]; simp
theorem ad_fwd {m : MachL} (h : FwdSmall m) {p q : Nat} (hpq : ad m p q ≠ 0) : p < q := fwd_tos h.f (ad_mem hpq)
theorem fwd_counts {m : MachL} (h : FwdSmall m) : ∃ M, Counts m 0 M ∧ (∀ q, q < m.states.length → M q ≤ 78125) ∧ tot m M ≤ 625000 := by
  obtain ⟨M, hM⟩ := counts_ex m.states.length m.states.length (fun q => if q = 0 then 1 else 0) (ad m) id (fun q hq => hq) (fun p q _ _ hpq => ad_fwd h hpq)
  have h0 : M 0 = 1 := by
    rw [hM 0 h.n1, nsum_zero_of (fun p _ => ?_)]
    · rfl
    · have : ad m p 0 = 0 := by
        apply Classical.byContradiction
        intro hne
        have := ad_fwd h hne
        omega
      rw [this]; simp
  have hb : ∀ k q, q < k → q < m.states.length → M q ≤ 5 ^ q := by
    intro k
    induction k with
    | zero => intro q hq; omega
    | succ k ih =>
      intro q hq hn
      by_cases hz : q = 0
      · subst hz; rw [h0]; exact Nat.le_refl _
      · rw [hM q hn, if_neg hz]
        have := nsum_le_part (n := m.states.length) (q := q) (by omega) (f := fun p => M p * ad m p q) (g := fun p => 5 ^ p * 4) (fun p hp hq2 => by
          have : ad m p q = 0 := by
            apply Classical.byContradiction
            intro hne
            have := ad_fwd h hne
            omega
          simp only [this, Nat.mul_zero]) (fun p hp => Nat.mul_le_mul (ih p (by omega) (by omega)) (ad_le h p q))
        have := nsum_pow q
        omega
  have hb2 : ∀ q, q < m.states.length → M q ≤ 78125 := fun q hq => by
    have h1 := hb (q + 1) q (by omega) hq
    have h2 : 5 ^ q ≤ 5 ^ 7 := Nat.pow_le_pow_right (by omega) (by have := h.n8; omega)
    have : (5 : Nat) ^ 7 = 78125 := by decide
    omega
  refine ⟨M, ⟨h0, fun q hq => hM q hq⟩, hb2, ?_⟩
  unfold tot
  have h1 : nsum m.states.length (fun q => if finB m q = true then M q else 0) ≤ nsum m.states.length (fun _ => 78125) := nsum_le fun q hq => by
    split
    · exact hb2 q hq
    · omega
  rw [nsum_const] at h1
  have := h.n8
  omega
/-- how many ways lead from each state to an end -/
theorem fwd_behind {m : MachL} (h : FwdSmall m) : ∃ B : Nat → Nat, (∀ q, q < m.states.length → B q = (if finB m q = true then 1 else 0) + nsum m.states.length (fun t => B t * ad m q t)) ∧ (∀ q, q < m.states.length → B q ≤ 390625) := by
  obtain ⟨B, hB⟩ := counts_ex m.states.length (m.states.length + 1) (fun q => if finB m q = true then 1 else 0) (fun p q => ad m q p) (fun q => m.states.length - q) (fun q hq => by omega) (fun p q hp hq hpq => by have := ad_fwd h hpq; omega)
  refine ⟨B, hB, fun q hq => ?_⟩
  have hb : ∀ k q, m.states.length - q < k → q < m.states.length → B q ≤ 5 ^ (m.states.length - q) := by
    intro k
    induction k with
    | zero => intro q hq; omega
    | succ k ih =>
      intro q hk hn
      rw [hB q hn]
      have h1 : nsum m.states.length (fun t => B t * ad m q t) ≤ nsum m.states.length (fun t => 5 ^ (m.states.length - (q + 1)) * ad m q t) := nsum_le fun t ht => by
        by_cases hz : ad m q t = 0
        · rw [hz]; simp
        · have := ad_fwd h hz
          refine Nat.mul_le_mul_right _ (Nat.le_trans (ih t (by omega) ht) (Nat.pow_le_pow_right (by omega) (by omega)))
      rw [nsum_mul] at h1
      have h2 : nsum m.states.length (ad m q) ≤ 4 := Nat.le_trans (nsum_count _ _) (tos_le h q)
      have h3 := Nat.mul_le_mul_left (5 ^ (m.states.length - (q + 1))) h2
      have h4 : 1 ≤ 5 ^ (m.states.length - (q + 1)) := Nat.pos_of_ne_zero (by simp)
      have h5 : 5 ^ (m.states.length - q) = 5 ^ (m.states.length - (q + 1)) * 5 := by rw [← Nat.pow_succ]; congr 1; omega
      split <;> omega
  have h1 := hb (m.states.length - q + 1) q (by omega) hq
  have h2 : 5 ^ (m.states.length - q) ≤ 5 ^ 8 := Nat.pow_le_pow_right (by omega) (by have := h.n8; omega)
  have : (5 : Nat) ^ 8 = 390625 := by decide
  omega
theorem tot_behind {m : MachL} (hn : 0 < m.states.length) {M B : Nat → Nat} (hC : Counts m 0 M) (hB : ∀ q, q < m.states.length → B q = (if finB m q = true then 1 else 0) + nsum m.states.length (fun t => B t * ad m q t)) : tot m M = B 0 := by
  have e1 : nsum m.states.length (fun q => M q * B q) = tot m M + nsum m.states.length (fun q => nsum m.states.length (fun t => M q * (B t * ad m q t))) := by
    unfold tot
    rw [← nsum_add]
    refine nsum_congr fun q hq => ?_
    rw [nsum_mul]
    have := hB q hq
    rw [this, Nat.mul_add]
    congr 1
    split <;> simp
  have e2 : nsum m.states.length (fun q => M q * B q) = B 0 + nsum m.states.length (fun q => nsum m.states.length (fun p => M p * ad m p q * B q)) := by
    rw [← nsum_at hn (fun q => B q), ← nsum_add]
    refine nsum_congr fun q hq => ?_
    rw [nsum_mulr, hC.eq q hq, Nat.add_mul]
    congr 1
    split <;> simp
  rw [nsum_comm] at e2
  have e3 : nsum m.states.length (fun q => nsum m.states.length (fun t => M q * (B t * ad m q t))) = nsum m.states.length (fun q => nsum m.states.length (fun p => M q * ad m q p * B p)) :=
    nsum_congr fun q _ => nsum_congr fun t _ => by rw [Nat.mul_comm (B t), Nat.mul_assoc]
  omega
theorem fwdSmall_madeK (r : RawL) (k : Int) (k1 : 1 ≤ k) (k8 : k ≤ 8) : FwdSmall (fwdM (mkMach r k false)) := by
  have h1 := mkMach_len r k false (by omega)
  have h2 : mkN r k ≤ k ∧ 1 ≤ mkN r k := by unfold mkN; omega
  have hv := valid_made r k false (by omega) (by omega)
  refine ⟨fwdM_valid hv (by omega), fwdM_fwd _, by rw [fwdM_len]; omega, by rw [fwdM_len]; omega, rfl, fun s hs => ?_⟩
  obtain ⟨q, hq, rfl⟩ := List.getElem_of_mem hs
  rw [fwdM_len] at hq
  simp only [fwdM, List.getElem_mapIdx]
  exact Nat.le_trans (fwdS_len _ _ _) (mk_arcs_small r k false _ (List.getElem_mem hq))
theorem fwdSmall_made (r : RawL) : FwdSmall (fwdM (mkMach r 8 false)) := fwdSmall_madeK r 8 (by omega) (by omega)
theorem FwdSmall.arcs {m : MachL} (h : FwdSmall m) : arcsOf m.states ≤ 32 := by
  have := sum_le4 _ h.a4
  have := h.n8
  omega
end Go.Proofs.YtkmnacchiagipaaDoor
