/- topo.Order (plain): states whose arcs have all been met come next. -/
/- A machine whose arcs lead forward (plain). -/
/- What OrderForward asks, plain. -/
import Derived.Test.YtkmnacchiagipaaDoorMem
import Derived.Test.YtkmnacchiagipaaDoorValid
namespace Go.Proofs.YtkmnacchiagipaaDoor

/-- where a state's arcs lead -/
def tos (m : MachL) (p : Nat) : List Nat := ((m.states[p]?).map (fun s => s.arcs.map (fun a => a.to.toNat))).getD []
/-- how many arcs lead to q from states that are not out -/
def dsum (m : MachL) (out : List Nat) (q : Nat) : Nat := ((List.range m.states.length).map (fun p => if p ∈ out then 0 else (tos m p).count q)).sum
theorem sum_move (f : Nat → Nat) (out : List Nat) (p : Nat) (hp : p ∉ out) : ∀ (L : List Nat), L.Nodup → p ∈ L → (L.map (fun x => if x ∈ out ++ [p] then 0 else f x)).sum + f p = (L.map (fun x => if x ∈ out then 0 else f x)).sum := by
  have none : ∀ L : List Nat, p ∉ L → (L.map (fun x => if x ∈ out ++ [p] then 0 else f x)).sum = (L.map (fun x => if x ∈ out then 0 else f x)).sum := by
    intro L h
    congr 1
    apply List.map_congr_left
    intro x hx
    have : x ≠ p := fun e => h (e ▸ hx)
    simp [this]
  intro L
  induction L with
  | nil => intro _ h; cases h
  | cons a L ih =>
    intro hd h
    simp only [List.nodup_cons] at hd
    simp only [List.map_cons, List.sum_cons]
    rcases List.mem_cons.1 h with rfl | h
    · rw [none L hd.1, if_pos (by simp), if_neg hp]; omega
    · have hne : a ≠ p := fun e => hd.1 (e ▸ h)
      have := ih hd.2 h
      have e : (if a ∈ out ++ [p] then 0 else f a) = if a ∈ out then 0 else f a := by simp [hne]
      rw [e]; omega
theorem dsum_out {m : MachL} {out : List Nat} {p : Nat} (hp : p ∉ out) (hl : p < m.states.length) (q : Nat) : dsum m (out ++ [p]) q + (tos m p).count q = dsum m out q :=
  sum_move (fun p => (tos m p).count q) out p hp _ List.nodup_range (List.mem_range.2 hl)
theorem sum_zero {L : List Nat} (h : L.sum = 0) : ∀ x ∈ L, x = 0 := by
  induction L with
  | nil => intro x hx; cases hx
  | cons a L ih =>
    intro x hx
    simp only [List.sum_cons] at h
    rcases List.mem_cons.1 hx with rfl | hx
    · omega
    · exact ih (by omega) x hx
theorem sum_pos {L : List Nat} (h : 0 < L.sum) : ∃ x ∈ L, 0 < x := by
  apply Classical.byContradiction
  intro hn
  have : ∀ L : List Nat, (∀ x ∈ L, x = 0) → L.sum = 0 := by
    intro L
    induction L with
    | nil => intro _; rfl
    | cons a L ih =>
      intro h
      simp only [List.sum_cons]
      have := h a (by simp); have := ih (fun x hx => h x (by simp [hx])); omega
  have := this L (fun x hx => by
    apply Classical.byContradiction
    intro h0
    exact hn ⟨x, hx, by omega⟩)
  omega
/-- what holds while the places `tail` are still to be told that they wait for one less -/
structure OInv (m : MachL) (out l : List Nat) (ws : List Int) (tail : List Nat) : Prop where
  len : ws.length = m.states.length
  nd : (out ++ l).Nodup
  lt : ∀ q ∈ out ++ l, q < m.states.length
  w : ∀ q, q < m.states.length → ws.getD q 0 = ((dsum m out q + tail.count q : Nat) : Int)
  ready : ∀ q, q < m.states.length → (dsum m out q + tail.count q = 0 ↔ q ∈ out ++ l)
  ord : ∀ pre q post, out = pre ++ q :: post → ∀ p, p < m.states.length → q ∈ tos m p → p ∈ pre
section
variable {m : MachL} {out l l' : List Nat} {ws : List Int} {tail : List Nat}
theorem OInv.perm (h : OInv m out l ws tail) (hp : l'.Perm l) : OInv m out l' ws tail := by
  have h2 : (out ++ l').Perm (out ++ l) := hp.append_left out
  exact ⟨h.len, h2.nodup_iff.2 h.nd, fun q hq => h.lt q (h2.mem_iff.1 hq), h.w, fun q hq => (h.ready q hq).trans h2.mem_iff.symm, h.ord⟩
theorem OInv.pop {q : Nat} (h : OInv m out (q :: l) ws []) : OInv m (out ++ [q]) l ws (tos m q) := by
  have hql := h.lt q (by simp)
  have hqo : q ∉ out := fun hq => by
    have := h.nd
    rw [List.nodup_append] at this
    exact this.2.2 q hq q (by simp) rfl
  have e : ∀ r, dsum m (out ++ [q]) r + (tos m q).count r = dsum m out r := dsum_out hqo hql
  refine ⟨h.len, ?_, fun r hr => h.lt r (by simpa using hr), fun r hr => ?_, fun r hr => ?_, fun pre r post he p hp hr => ?_⟩
  · have := h.nd; simpa using this
  · rw [h.w r hr, e]; simp
  · rw [e]
    have := h.ready r hr
    simp only [List.count_nil, Nat.add_zero] at this
    rw [this]; simp
  · rcases List.eq_nil_or_concat post with rfl | ⟨post', z, rfl⟩
    · have h1 : out = pre ∧ q = r := by
        have := List.append_inj_right' (show out ++ [q] = pre ++ [r] from he) rfl
        have h2 := List.append_inj_left' (show out ++ [q] = pre ++ [r] from he) rfl
        simp at this
        exact ⟨h2, this⟩
      obtain ⟨rfl, rfl⟩ := h1
      have h3 : dsum m out q = 0 := by have := (h.ready q hql).2 (by simp); simpa using this
      have h4 := sum_zero h3 _ (List.mem_map.2 ⟨p, List.mem_range.2 hp, rfl⟩)
      apply Classical.byContradiction
      intro hpo
      rw [if_neg hpo] at h4
      have h5 := List.count_pos_iff.2 hr
      omega
    · have h1 : out = pre ++ r :: post' := by
        have he' : out ++ [q] = (pre ++ r :: post') ++ [z] := by rw [he]; simp
        exact List.append_inj_left' he' rfl
      exact h.ord pre r post' h1 p hp hr
theorem count_tail (t : Nat) (tail : List Nat) (r : Nat) : (t :: tail).count r = tail.count r + if t = r then 1 else 0 := by
  rw [List.count_cons]
  by_cases e : t = r <;> simp [e]
theorem getD_set (ws : List Int) (t : Nat) (x : Int) (ht : t < ws.length) (r : Nat) : (ws.set t x).getD r 0 = if t = r then x else ws.getD r 0 := by
  rw [List.getD_eq_getElem?_getD, List.getElem?_set, List.getD_eq_getElem?_getD]
  by_cases e : t = r
  · subst e; simp [ht]
  · simp [e]
/-- one place is told, and waits for more -/
theorem OInv.tell {t : Nat} (h : OInv m out l ws (t :: tail)) (ht : t < m.states.length) (hne : ws.getD t 0 - 1 ≠ 0) : OInv m out l (ws.set t (ws.getD t 0 - 1)) tail := by
  have hw := h.w t ht
  rw [count_tail, if_pos rfl] at hw
  refine ⟨by rw [List.length_set]; exact h.len, h.nd, h.lt, fun r hr => ?_, fun r hr => ?_, h.ord⟩
  · rw [getD_set _ _ _ (by rw [h.len]; exact ht)]
    by_cases e : t = r
    · subst e; rw [if_pos rfl, hw]; omega
    · rw [if_neg e, h.w r hr, count_tail, if_neg e, Nat.add_zero]
  · have := h.ready r hr
    rw [count_tail] at this
    by_cases e : t = r
    · subst e
      rw [if_pos rfl] at this
      constructor
      · intro h0; exfalso; omega
      · intro h0; have := this.2 h0; omega
    · rw [if_neg e, Nat.add_zero] at this; exact this
/-- .. and is ready -/
theorem OInv.tell0 {t : Nat} (h : OInv m out l ws (t :: tail)) (ht : t < m.states.length) (h0 : ws.getD t 0 - 1 = 0) : OInv m out (l ++ [t]) (ws.set t (ws.getD t 0 - 1)) tail := by
  have hw := h.w t ht
  rw [count_tail, if_pos rfl] at hw
  have hnew : t ∉ out ++ l := fun hm => by
    have := (h.ready t ht).2 hm
    rw [count_tail, if_pos rfl] at this; omega
  refine ⟨by rw [List.length_set]; exact h.len, ?_, fun q hq => ?_, fun r hr => ?_, fun r hr => ?_, h.ord⟩
  · rw [← List.append_assoc]
    refine List.nodup_append.2 ⟨h.nd, by simp, fun a ha b hb e => ?_⟩
    simp at hb; subst hb; subst e; exact hnew ha
  · rw [← List.append_assoc] at hq
    rcases List.mem_append.1 hq with hq | hq
    · exact h.lt q hq
    · simp at hq; subst hq; exact ht
  · rw [getD_set _ _ _ (by rw [h.len]; exact ht)]
    by_cases e : t = r
    · subst e; rw [if_pos rfl, hw]; omega
    · rw [if_neg e, h.w r hr, count_tail, if_neg e, Nat.add_zero]
  · have := h.ready r hr
    rw [count_tail] at this
    by_cases e : t = r
    · subst e
      rw [← List.append_assoc]
      constructor
      · intro _; simp
      · intro _; omega
    · rw [if_neg e, Nat.add_zero] at this
      rw [this, ← List.append_assoc, List.mem_append, List.mem_append, List.mem_append, List.mem_singleton]
      constructor
      · intro h; exact .inl h
      · rintro (h | h)
        · exact h
        · exact absurd h.symm e
/-- an order in which each arc leads forward -/
structure IsTopo (m : MachL) (out : List Nat) : Prop where
  nd : out.Nodup
  lt : ∀ q ∈ out, q < m.states.length
  len : out.length = m.states.length
  ord : ∀ pre q post, out = pre ++ q :: post → ∀ p, p < m.states.length → q ∈ tos m p → p ∈ pre
/-- states to each of which an arc of one of them leads -/
def Stuck (m : MachL) (S : Nat → Prop) : Prop := (∃ q, S q) ∧ ∀ q, S q → q < m.states.length ∧ ∃ p, S p ∧ q ∈ tos m p
theorem nodup_full : ∀ (n : Nat) (l : List Nat), l.Nodup → (∀ x ∈ l, x < n) → l.length ≤ n := by
  intro n
  induction n with
  | zero =>
    intro l _ h
    cases l with
    | nil => simp
    | cons a l => exact absurd (h a (by simp)) (by omega)
  | succ n ih =>
    intro l hd h
    by_cases hn : n ∈ l
    · have h1 := List.length_erase_of_mem hn
      have h2 := ih (l.erase n) (hd.erase n) (fun x hx => by
        have h3 := (hd.mem_erase_iff).1 hx
        have := h x h3.2
        have := h3.1
        omega)
      have := List.length_pos_of_mem hn
      omega
    · have := ih l hd (fun x hx => by
        have := h x hx
        have : x ≠ n := fun e => hn (e ▸ hx)
        omega)
      omega
theorem OInv.le (h : OInv m out l ws tail) : out.length + l.length ≤ m.states.length := by
  have := nodup_full _ _ h.nd h.lt
  simpa using this
theorem OInv.topo (h : OInv m out l ws tail) (hn : out.length = m.states.length) : IsTopo m out :=
  ⟨(List.nodup_append.1 h.nd).1, fun q hq => h.lt q (List.mem_append_left _ hq), hn, h.ord⟩
theorem OInv.stuck (h : OInv m out [] ws []) (hn : out.length < m.states.length) : Stuck m (fun q => q < m.states.length ∧ q ∉ out) := by
  refine ⟨?_, fun q hq => ⟨hq.1, ?_⟩⟩
  · apply Classical.byContradiction
    intro hne
    have hall : ∀ q, q < m.states.length → q ∈ out := fun q hq => by
      apply Classical.byContradiction
      intro h1; exact hne ⟨q, hq, h1⟩
    have h1 : ∀ n (l : List Nat), (∀ q, q < n → q ∈ l) → n ≤ l.length := by
      intro n l hl
      have : (List.range n) ⊆ l := fun q hq => hl q (List.mem_range.1 hq)
      have := List.Nodup.length_le_of_subset List.nodup_range this
      simpa using this
    have := h1 _ _ hall
    omega
  · have h1 : ¬ dsum m out q = 0 := fun h0 => by
      have := (h.ready q hq.1).1 (by simpa using h0)
      simp at this; exact hq.2 this
    obtain ⟨x, hx, hx0⟩ := sum_pos (show 0 < dsum m out q by omega)
    obtain ⟨p, hp, rfl⟩ := List.mem_map.1 hx
    by_cases hpo : p ∈ out
    · rw [if_pos hpo] at hx0; omega
    · rw [if_neg hpo] at hx0
      exact ⟨p, ⟨List.mem_range.1 hp, hpo⟩, List.count_pos_iff.1 hx0⟩
end
/-- how many arcs of the first k states lead to q -/
def degU (m : MachL) (k : Nat) (q : Nat) : Nat := ((List.range k).map (fun p => (tos m p).count q)).sum
theorem degU_succ (m : MachL) (k q : Nat) : degU m (k + 1) q = degU m k q + (tos m k).count q := by
  unfold degU; rw [List.range_succ]; simp
theorem degU_all (m : MachL) (q : Nat) : degU m m.states.length q = dsum m [] q := by
  unfold degU dsum; simp
/-- the counts while arcs of state k are told -/
def DegOk (m : MachL) (k : Nat) (done : List Nat) (ws : List Int) : Prop := ws.length = m.states.length ∧ ∀ q, q < m.states.length → ws.getD q 0 = ((degU m k q + done.count q : Nat) : Int)
theorem DegOk.zero (m : MachL) : DegOk m 0 [] (List.replicate m.states.length 0) := by
  refine ⟨by simp, fun q hq => ?_⟩
  simp [degU, hq]
theorem DegOk.tell {m : MachL} {k : Nat} {done : List Nat} {ws : List Int} (h : DegOk m k done ws) {t : Nat} (ht : t < m.states.length) : DegOk m k (done ++ [t]) (ws.set t (ws.getD t 0 + 1)) := by
  refine ⟨by rw [List.length_set]; exact h.1, fun q hq => ?_⟩
  rw [getD_set _ _ _ (by rw [h.1]; exact ht), List.count_append]
  by_cases e : t = q
  · subst e; rw [if_pos rfl, h.2 t ht]; simp; omega
  · rw [if_neg e, h.2 q hq]; simp [e]
theorem DegOk.next {m : MachL} {k : Nat} {ws : List Int} (h : DegOk m k (tos m k) ws) : DegOk m (k + 1) [] ws :=
  ⟨h.1, fun q hq => by rw [h.2 q hq, degU_succ]; simp⟩
/-- the states below k that wait for none -/
def zeros (ws : List Int) (k : Nat) : List Nat := (List.range k).filter (fun q => ws.getD q 0 == 0)
theorem zeros_succ (ws : List Int) (k : Nat) : zeros ws (k + 1) = if ws.getD k 0 = 0 then zeros ws k ++ [k] else zeros ws k := by
  unfold zeros; rw [List.range_succ, List.filter_append]
  by_cases h : ws.getD k 0 = 0
  · rw [if_pos h]; simp only [List.filter_cons, List.filter_nil]; rw [if_pos (by simpa using h)]
  · rw [if_neg h]; simp only [List.filter_cons, List.filter_nil]; rw [if_neg (by simpa using h)]; simp
theorem OInv.init {m : MachL} {ws : List Int} (h : DegOk m m.states.length [] ws) : OInv m [] (zeros ws m.states.length) ws [] := by
  refine ⟨h.1, ?_, fun q hq => ?_, fun q hq => ?_, fun q hq => ?_, fun pre q post he => ?_⟩
  · exact (List.nodup_range.filter _)
  · simp only [List.nil_append, zeros, List.mem_filter, List.mem_range] at hq; exact hq.1
  · rw [h.2 q hq, degU_all]
  · have := h.2 q hq
    rw [degU_all] at this
    simp only [List.nil_append, zeros, List.mem_filter, List.mem_range, beq_iff_eq]
    rw [this]
    constructor
    · intro h0; exact ⟨hq, by omega⟩
    · rintro ⟨_, h0⟩; omega
  · simp at he
end Go.Proofs.YtkmnacchiagipaaDoor

namespace Go.Proofs.YtkmnacchiagipaaDoor
open Go.RowKit

def fwdA (n q : Nat) (a : ArcL) : ArcL := ⟨a.inn, a.out, a.wt, (q : Int) + 1 + a.to % ((n : Int) - 1 - q)⟩
def fwdArcs (n q : Nat) (l : List ArcL) : List ArcL := if q + 1 < n then l.map (fwdA n q) else []
def fwdS (n q : Nat) (s : StateL) : StateL := ⟨s.final, fwdArcs n q s.arcs⟩
def fwdPart (ss : List StateL) (k : Nat) : List StateL := ss.mapIdx fun q s => if q < k then fwdS ss.length q s else s
def fwdM (m : MachL) : MachL := ⟨0, m.states.mapIdx (fwdS m.states.length)⟩

theorem fwdPart_len (ss : List StateL) (k : Nat) : (fwdPart ss k).length = ss.length := by simp [fwdPart]
theorem fwdPart_zero (ss : List StateL) : fwdPart ss 0 = ss := by
  unfold fwdPart
  apply List.ext_getElem
  · simp
  · intro i h1 h2; simp
theorem fwdPart_full (m : MachL) : (⟨0, fwdPart m.states m.states.length⟩ : MachL) = fwdM m := by
  unfold fwdPart fwdM
  congr 1
  apply List.ext_getElem
  · simp
  · intro i h1 h2
    simp at h2
    simp [h2]
theorem fwdPart_get (ss : List StateL) (k : Nat) (hk : k < ss.length) : (fwdPart ss k)[k]'(by rw [fwdPart_len]; exact hk) = ss[k] := by simp [fwdPart]
theorem fwdPart_set (ss : List StateL) (k : Nat) (hk : k < ss.length) : (fwdPart ss k).set k ⟨ss[k].final, fwdArcs ss.length k ss[k].arcs⟩ = fwdPart ss (k + 1) := by
  unfold fwdPart
  apply List.ext_getElem
  · simp
  · intro i h1 h2
    simp at h1
    by_cases e : k = i
    · subst e; simp [fwdS]
    · rw [List.getElem_set_ne e]
      simp only [List.getElem_mapIdx]
      by_cases e2 : i < k
      · rw [if_pos e2, if_pos (by omega)]
      · rw [if_neg e2, if_neg (by omega)]

theorem fwd_to {n q : Nat} (hq : q + 1 < n) {a : ArcL} : (q : Int) < (fwdA n q a).to ∧ (fwdA n q a).to < n := by
  unfold fwdA
  simp only
  have h1 := Int.emod_nonneg a.to (b := (n : Int) - 1 - q) (by omega)
  have h2 := Int.emod_lt_of_pos a.to (b := (n : Int) - 1 - q) (by omega)
  omega

/-- each arc leads forward -/
def Fwd (m : MachL) : Prop := ∀ q (h : q < m.states.length), ∀ a ∈ m.states[q].arcs, (q : Int) < a.to

theorem fwdM_len (m : MachL) : (fwdM m).states.length = m.states.length := by simp [fwdM]
theorem fwdM_fwd (m : MachL) : Fwd (fwdM m) := by
  intro q hq a ha
  simp only [fwdM, List.getElem_mapIdx, fwdS, fwdArcs] at ha
  simp [fwdM] at hq
  split at ha
  · rename_i h
    obtain ⟨b, hb, rfl⟩ := List.mem_map.1 ha
    exact fwd_to h |>.1
  · simp at ha
theorem fwdS_len (n q : Nat) (s : StateL) : (fwdS n q s).arcs.length ≤ s.arcs.length := by
  unfold fwdS fwdArcs
  simp only
  split <;> simp
theorem arcsOf_le2 (l l' : List StateL) (hl : l.length = l'.length) (h : ∀ i (h1 : i < l.length) (h2 : i < l'.length), l[i].arcs.length ≤ l'[i].arcs.length) : arcsOf l ≤ arcsOf l' := by
  unfold arcsOf
  induction l generalizing l' with
  | nil => simp
  | cons a l ih =>
    cases l' with
    | nil => simp at hl
    | cons b l' =>
      have h0 := h 0 (by simp) (by simp)
      have := ih l' (by simpa using hl) (fun i h1 h2 => by have := h (i + 1) (by simpa using h1) (by simpa using h2); simpa using this)
      simp only [List.map_cons, List.sum_cons]
      simp at h0
      omega
theorem fwdM_valid {m : MachL} (hv : Valid m) (h0 : 0 < m.states.length) : Valid (fwdM m) := by
  refine ⟨by rw [fwdM_len]; exact hv.size, ?_, by simp [fwdM], by rw [fwdM_len]; simp [fwdM]; exact h0, ?_⟩
  · refine Nat.le_trans (arcsOf_le2 _ _ (fwdM_len m) fun i h1 h2 => ?_) hv.arcs
    simp only [fwdM, List.getElem_mapIdx]
    exact fwdS_len _ _ _
  · intro s hs
    obtain ⟨q, hq, rfl⟩ := List.getElem_of_mem hs
    rw [fwdM_len] at hq
    rw [fwdM_len]
    have hb := hv.st _ (List.getElem_mem hq)
    simp only [fwdM, List.getElem_mapIdx, fwdS, fwdArcs]
    refine ⟨hb.1, fun a ha => ?_⟩
    split at ha
    · rename_i h
      obtain ⟨b, hbm, rfl⟩ := List.mem_map.1 ha
      have hx := hb.2 b hbm
      have hy := fwd_to h (a := b)
      exact ⟨hx.i0, hx.i1, hx.o0, hx.o1, hx.w0, hx.w1, by omega, hy.2⟩
    · simp at ha
end Go.Proofs.YtkmnacchiagipaaDoor

namespace Go.Proofs.YtkmnacchiagipaaDoor
open Go.RowKit

theorem mem_tos {m : MachL} {p q : Nat} (h : q ∈ tos m p) : ∃ (hp : p < m.states.length), ∃ a ∈ m.states[p].arcs, a.to.toNat = q := by
  unfold tos at h
  rcases Nat.lt_or_ge p m.states.length with hp | hp
  · rw [List.getElem?_eq_getElem hp] at h
    simp only [Option.map_some, Option.getD_some] at h
    obtain ⟨a, ha, e⟩ := List.mem_map.1 h
    exact ⟨hp, a, ha, e⟩
  · rw [List.getElem?_eq_none hp] at h
    simp at h
theorem fwd_tos {m : MachL} (hf : Fwd m) {p q : Nat} (h : q ∈ tos m p) : p < q := by
  obtain ⟨hp, a, ha, rfl⟩ := mem_tos h
  have := hf p hp a ha
  omega
theorem fwd_not_stuck {m : MachL} (hf : Fwd m) {S : Nat → Prop} (h : Stuck m S) : False := by
  obtain ⟨⟨q, hq⟩, hs⟩ := h
  have key : ∀ n q, q ≤ n → S q → False := by
    intro n
    induction n with
    | zero =>
      intro q hn hq
      obtain ⟨-, p, -, ht⟩ := hs q hq
      have := fwd_tos hf ht
      omega
    | succ n ih =>
      intro q hn hq
      obtain ⟨-, p, hp, ht⟩ := hs q hq
      have := fwd_tos hf ht
      exact ih p (by omega) hp
  exact key q q (Nat.le_refl _) hq

/-- where the first k of the order stand, from 1 on; 0: not among them -/
def posA (n : Nat) (out : List Nat) (k : Nat) : List Int := (List.range n).map fun q => if q ∈ out.take k then (out.idxOf q : Int) + 1 else 0
theorem posA_len (n : Nat) (out : List Nat) (k : Nat) : (posA n out k).length = n := by simp [posA]
theorem posA_zero (n : Nat) (out : List Nat) : posA n out 0 = List.replicate n 0 := by
  unfold posA
  apply List.ext_getElem
  · simp
  · intro i h1 h2; simp
theorem posA_at {n : Nat} {out : List Nat} (hd : out.Nodup) (k : Nat) (hk : k < out.length) (hn : out[k] < n) : (posA n out k).getD out[k] 0 = 0 := by
  unfold posA
  rw [List.getD_eq_getElem?_getD, List.getElem?_eq_getElem (by simpa using hn)]
  simp only [List.getElem_map, List.getElem_range, Option.getD_some]
  rw [if_neg]
  intro h
  obtain ⟨i, hi, e⟩ := List.getElem_of_mem h
  simp at hi
  rw [List.getElem_take] at e
  have h3 := List.Nodup.idxOf_getElem hd i (by omega)
  have h4 := List.Nodup.idxOf_getElem hd k hk
  rw [e] at h3
  omega
theorem posA_set {n : Nat} {out : List Nat} (hd : out.Nodup) (k : Nat) (hk : k < out.length) : (posA n out k).set out[k] ((k : Int) + 1) = posA n out (k + 1) := by
  unfold posA
  have hidx : out.idxOf out[k] = k := List.Nodup.idxOf_getElem hd k hk
  apply List.ext_getElem
  · simp
  · intro i h1 h2
    simp at h1
    have ht : out.take (k + 1) = out.take k ++ [out[k]] := List.take_succ_eq_append_getElem hk
    by_cases e : out[k] = i
    · subst e
      simp only [List.getElem_set_self, List.getElem_map, List.getElem_range]
      rw [if_pos (by rw [ht]; exact List.mem_append_right _ (by simp)), hidx]
    · rw [List.getElem_set_ne e]
      simp only [List.getElem_map, List.getElem_range]
      rw [ht]
      have : (i ∈ List.take k out ++ [out[k]]) ↔ i ∈ List.take k out := by
        simp only [List.mem_append, List.mem_singleton]
        constructor
        · rintro (h | h)
          · exact h
          · exact absurd h.symm e
        · exact .inl
      simp only [this]
theorem IsTopo.all {m : MachL} {out : List Nat} (h : IsTopo m out) (q : Nat) (hq : q < m.states.length) : q ∈ out := by
  apply Classical.byContradiction
  intro hn
  have h1 : (q :: out).Nodup := List.nodup_cons.2 ⟨hn, h.nd⟩
  have h2 := nodup_full m.states.length (q :: out) h1 (fun x hx => by
    rcases List.mem_cons.1 hx with rfl | hx
    · exact hq
    · exact h.lt x hx)
  have := h.len
  simp at h2
  omega
theorem IsTopo.idx {m : MachL} {out : List Nat} (h : IsTopo m out) {p q : Nat} (hq : q < m.states.length) (ht : q ∈ tos m p) : out.idxOf p < out.idxOf q := by
  obtain ⟨pre, post, e⟩ := List.append_of_mem (h.all q hq)
  obtain ⟨hp, -⟩ := mem_tos ht
  have hpre := h.ord pre q post e p hp ht
  have hnd := h.nd
  rw [e] at hnd ⊢
  have hqn : q ∉ pre := fun hx => (List.nodup_append.1 hnd).2.2 q hx q (by simp) rfl
  have h1 : (pre ++ q :: post).idxOf q = pre.length := by
    rw [List.idxOf_append, if_neg hqn]
    simp
  have h2 : (pre ++ q :: post).idxOf p = pre.idxOf p := by rw [List.idxOf_append, if_pos hpre]
  rw [h1, h2]
  exact List.idxOf_lt_length_of_mem hpre
theorem IsTopo.pos {m : MachL} {out : List Nat} (h : IsTopo m out) (q : Nat) (hq : q < m.states.length) : (posA m.states.length out m.states.length).getD q 0 = (out.idxOf q : Int) + 1 ∧ out.idxOf q < m.states.length := by
  have hl := List.idxOf_lt_length_of_mem (h.all q hq)
  rw [h.len] at hl
  refine ⟨?_, hl⟩
  unfold posA
  rw [List.getD_eq_getElem?_getD, List.getElem?_eq_getElem (by simpa using hq)]
  simp only [List.getElem_map, List.getElem_range, Option.getD_some]
  rw [List.take_of_length_le (by rw [h.len]; exact Nat.le_refl _), if_pos (h.all q hq)]
end Go.Proofs.YtkmnacchiagipaaDoor
