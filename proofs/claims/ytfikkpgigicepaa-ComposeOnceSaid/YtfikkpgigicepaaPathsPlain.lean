/- How many paths there are: what topo.Paths holds on its way (plain). -/
import Derived.Test.YtfikkpgigicepaaSums
namespace Go.Proofs.Ytfikkpgigicepaa

def ad (m : MachL) (p q : Nat) : Nat := (tos m p).count q
def finB (m : MachL) (q : Nat) : Bool := ((m.states[q]?).map (fun s => s.final != 1000000001)).getD false
/-- M: how many ways lead from the start to each state -/
structure Counts (m : MachL) (s : Nat) (M : Nat → Nat) : Prop where
  one : M s = 1
  eq : ∀ q, q < m.states.length → M q = (if q = s then 1 else 0) + nsum m.states.length (fun p => M p * ad m p q)
def tot (m : MachL) (M : Nat → Nat) : Nat := nsum m.states.length (fun q => if finB m q = true then M q else 0)
def psum (m : MachL) (M : Nat → Nat) (pre : List Nat) (r : Nat) : Nat := (pre.map (fun p => M p * ad m p r)).sum
def fsum (m : MachL) (M : Nat → Nat) (pre : List Nat) : Nat := (pre.map (fun q => if finB m q = true then M q else 0)).sum

theorem ad_mem {m : MachL} {p q : Nat} (h : ad m p q ≠ 0) : q ∈ tos m p := by
  unfold ad at h
  exact List.count_pos_iff.1 (by omega)
theorem psum_snoc (m : MachL) (M : Nat → Nat) (pre : List Nat) (q r : Nat) : psum m M (pre ++ [q]) r = psum m M pre r + M q * ad m q r := by simp [psum]
theorem fsum_snoc (m : MachL) (M : Nat → Nat) (pre : List Nat) (q : Nat) : fsum m M (pre ++ [q]) = fsum m M pre + (if finB m q = true then M q else 0) := by simp [fsum]

section
variable {m : MachL} {out : List Nat} {M : Nat → Nat} {s : Nat}
theorem IsTopo.iff (h : IsTopo m out) (q : Nat) : q ∈ out ↔ q < m.states.length := ⟨h.lt q, h.all q⟩
theorem IsTopo.sum (h : IsTopo m out) (f : Nat → Nat) : nsum m.states.length f = (out.map f).sum := nsum_of_perm h.nd h.iff f
theorem IsTopo.notin (h : IsTopo m out) {pre post : List Nat} {q : Nat} (e : out = pre ++ q :: post) {t : Nat} (ht : t ∈ tos m q) (htn : t < m.states.length) : t ∉ pre ++ [q] := by
  have h1 := h.idx htn ht
  have hd := h.nd
  intro hm
  have hq : q ∉ pre := fun hx => by
    rw [e] at hd
    exact (List.nodup_append.1 hd).2.2 q hx q (by simp) rfl
  have h2 : out.idxOf q = pre.length := by
    rw [e, List.idxOf_append, if_neg hq]; simp
  have h3 : out.idxOf t ≤ pre.length := by
    rw [e]
    rcases List.mem_append.1 hm with h4 | h4
    · rw [List.idxOf_append, if_pos h4]
      exact Nat.le_of_lt (List.idxOf_lt_length_of_mem h4)
    · simp at h4
      subst h4
      rw [List.idxOf_append, if_neg hq]; simp
  omega
theorem psum_full (h : IsTopo m out) {pre post : List Nat} {q : Nat} (e : out = pre ++ q :: post) : psum m M pre q = nsum m.states.length (fun p => M p * ad m p q) := by
  rw [h.sum, e, List.map_append, List.sum_append]
  have hz : ((q :: post).map (fun p => M p * ad m p q)).sum = 0 := sum_zero_of fun p hp => by
    by_cases hz : ad m p q = 0
    · rw [hz]; simp
    · have hpo : p ∈ out := by rw [e]; exact List.mem_append_right _ hp
      have hqo : q < m.states.length := h.lt q (by rw [e]; simp)
      have h1 := h.ord pre q post e p (h.lt p hpo) (ad_mem hz)
      have hd := h.nd
      rw [e] at hd
      exact absurd rfl ((List.nodup_append.1 hd).2.2 p h1 p hp)
  rw [hz]; rfl
theorem psum_le (h : IsTopo m out) {pre post : List Nat} (e : out = pre ++ post) (r : Nat) : psum m M pre r ≤ nsum m.states.length (fun p => M p * ad m p r) := by
  rw [h.sum, e, List.map_append, List.sum_append]
  exact Nat.le_add_right _ _
theorem fsum_le (h : IsTopo m out) {pre post : List Nat} (e : out = pre ++ post) : fsum m M pre ≤ tot m M := by
  unfold tot
  rw [h.sum, e, List.map_append, List.sum_append]
  exact Nat.le_add_right _ _
theorem fsum_full (h : IsTopo m out) : fsum m M out = tot m M := by
  unfold tot
  rw [h.sum]; rfl

/-- behind the states pre -/
def PInv (m : MachL) (M : Nat → Nat) (pre : List Nat) (many : List Int) : Prop := many.length = m.states.length ∧ ∀ r, r < m.states.length → many.getD r 0 = ((if r ∈ pre then M r else psum m M pre r : Nat) : Int)
/-- .. within state q, behind t of its arcs -/
def PIn (m : MachL) (M : Nat → Nat) (pre : List Nat) (q t : Nat) (many : List Int) : Prop := many.length = m.states.length ∧ ∀ r, r < m.states.length → many.getD r 0 = ((if r ∈ pre ++ [q] then M r else psum m M pre r + M q * ((tos m q).take t).count r : Nat) : Int)

theorem PInv.zero (m : MachL) (M : Nat → Nat) : PInv m M [] (List.replicate m.states.length 0) := by
  refine ⟨by simp, fun r hr => ?_⟩
  simp [psum, List.getD_eq_getElem?_getD, hr]
theorem getDset (l : List Int) (q : Nat) (x : Int) (h : q < l.length) (r : Nat) : (l.set q x).getD r 0 = if r = q then x else l.getD r 0 := by
  simp only [List.getD_eq_getElem?_getD]
  by_cases e : r = q
  · subst e; simp [h]
  · rw [List.getElem?_set_ne (fun h => e h.symm), if_neg e]
/-- what stands at q when its turn comes -/
theorem PInv.turn (h : IsTopo m out) (hC : Counts m s M) {pre post : List Nat} {q : Nat} (e : out = pre ++ q :: post) {many : List Int} (hI : PInv m M pre many) (hq : q ≠ s) : many.getD q 0 = (M q : Int) ∧ PIn m M pre q 0 many := by
  have hqn : q < m.states.length := h.lt q (by rw [e]; simp)
  have hnp : q ∉ pre := fun hx => by
    have hd := h.nd
    rw [e] at hd
    exact (List.nodup_append.1 hd).2.2 q hx q (by simp) rfl
  have h1 : psum m M pre q = M q := by
    have := hC.eq q hqn
    rw [if_neg hq] at this
    rw [psum_full h e]; omega
  have h2 := hI.2 q hqn
  rw [if_neg hnp, h1] at h2
  refine ⟨h2, hI.1, fun r hr => ?_⟩
  by_cases er : r = q
  · subst er
    rw [if_pos (by simp)]; exact h2
  · rw [hI.2 r hr]
    simp [er]
theorem PInv.turn1 (h : IsTopo m out) (hC : Counts m s M) {pre post : List Nat} (e : out = pre ++ s :: post) {many : List Int} (hI : PInv m M pre many) : PIn m M pre s 0 (many.set s 1) := by
  have hsn : s < m.states.length := h.lt s (by rw [e]; simp)
  refine ⟨by rw [List.length_set]; exact hI.1, fun r hr => ?_⟩
  rw [getDset _ _ _ (by rw [hI.1]; exact hsn)]
  by_cases er : r = s
  · subst er
    rw [if_pos rfl, if_pos (by simp), hC.one]; rfl
  · rw [if_neg er, hI.2 r hr]
    simp [er]
theorem PIn.at_q {pre : List Nat} {q t : Nat} {many : List Int} (hI : PIn m M pre q t many) (hq : q < m.states.length) : many.getD q 0 = (M q : Int) := by
  rw [hI.2 q hq, if_pos (by simp)]
theorem PIn.step (h : IsTopo m out) (hC : Counts m s M) {pre post : List Nat} {q : Nat} (e : out = pre ++ q :: post) {t tt : Nat} {many : List Int} (hI : PIn m M pre q t many) (ht : t < (tos m q).length) (hto : (tos m q)[t] = tt) (hn : tt < m.states.length) :
    ∃ x : Nat, many.getD tt 0 = (x : Int) ∧ x + M q ≤ M tt ∧ PIn m M pre q (t + 1) (many.set tt ((x : Int) + (M q : Nat))) := by
  have hmem : tt ∈ tos m q := by rw [← hto]; exact List.getElem_mem ht
  have hni := h.notin e hmem hn
  have htk : (tos m q).take (t + 1) = (tos m q).take t ++ [tt] := by rw [List.take_succ_eq_append_getElem ht, hto]
  refine ⟨psum m M pre tt + M q * ((tos m q).take t).count tt, ?_, ?_, by rw [List.length_set]; exact hI.1, fun r hr => ?_⟩
  · rw [hI.2 tt hn, if_neg hni]
  · have h1 := psum_le (M := M) h (show out = (pre ++ [q]) ++ post by rw [e]; simp) tt
    rw [psum_snoc] at h1
    have h2 := hC.eq tt hn
    have h3 : ((tos m q).take (t + 1)).count tt ≤ (tos m q).count tt := (List.take_sublist _ _).count_le tt
    rw [htk, List.count_append, List.count_singleton_self] at h3
    have h4 : M q * (((tos m q).take t).count tt + 1) ≤ M q * ad m q tt := Nat.mul_le_mul_left _ h3
    rw [Nat.mul_add] at h4
    omega
  · rw [getDset _ _ _ (by rw [hI.1]; exact hn)]
    by_cases er : r = tt
    · subst er
      rw [if_pos rfl, if_neg hni, htk, List.count_append, List.count_singleton_self, Nat.mul_add]
      omega
    · rw [if_neg er, hI.2 r hr, htk, List.count_append, List.count_singleton]
      have : (tt == r) = false := by simpa using fun h => er h.symm
      rw [this]
      simp
theorem PIn.done {pre : List Nat} {q : Nat} {many : List Int} (hI : PIn m M pre q (tos m q).length many) : PInv m M (pre ++ [q]) many := by
  refine ⟨hI.1, fun r hr => ?_⟩
  rw [hI.2 r hr, psum_snoc, List.take_length]
  rfl
end
end Go.Proofs.Ytfikkpgigicepaa
