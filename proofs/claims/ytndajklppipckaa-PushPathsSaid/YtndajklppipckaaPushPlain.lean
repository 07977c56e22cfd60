/- Weights pushed towards the start (plain). -/
import Derived.Test.YtndajklppipckaaTrimLaw
import Derived.Test.YtndajklppipckaaDistLaw
namespace Go.Proofs.Ytndajklppipckaa

def pushArc (d : List Int) (q : Nat) (a : ArcL) : ArcL := ⟨a.inn, a.out, a.wt + (d.getD a.to.toNat 0 - d.getD q 0), a.to⟩
def pushFin (d : List Int) (q : Nat) (f : Int) : Int := if f = 1000000001 then f else f - d.getD q 0
def pushState (d : List Int) (q : Nat) (s : StateL) : StateL := ⟨pushFin d q s.final, s.arcs.map (pushArc d q)⟩
def pushM (d : List Int) (t : MachL) : MachL := ⟨t.start, t.states.mapIdx (pushState d)⟩
/-- the first q states are pushed -/
def pushPart (d : List Int) (ss : List StateL) (q : Nat) : List StateL := ss.mapIdx fun i s => if i < q then pushState d i s else s
/-- the state q while its arcs are pushed -/
def pushMid (d : List Int) (q : Nat) (s : StateL) (i : Nat) : StateL := ⟨pushFin d q s.final, (s.arcs.take i).map (pushArc d q) ++ s.arcs.drop i⟩
theorem pushPart_len (d : List Int) (ss : List StateL) (q : Nat) : (pushPart d ss q).length = ss.length := by simp [pushPart]
theorem pushPart_zero (d : List Int) (ss : List StateL) : pushPart d ss 0 = ss := by
  unfold pushPart
  apply List.ext_getElem
  · simp
  · intro i h1 h2; simp
theorem pushPart_all (d : List Int) (t : MachL) : (⟨t.start, pushPart d t.states t.states.length⟩ : MachL) = pushM d t := by
  unfold pushM pushPart
  congr 1
  apply List.ext_getElem
  · simp
  · intro i h1 h2
    simp only [List.length_mapIdx] at h1
    simp only [List.getElem_mapIdx]
    rw [if_pos h1]
theorem pushPart_get (d : List Int) (ss : List StateL) (q : Nat) (hq : q < ss.length) : (pushPart d ss q)[q]'(by rw [pushPart_len]; exact hq) = ss[q] := by simp [pushPart]
theorem pushMid_zero (d : List Int) (q : Nat) (s : StateL) : pushMid d q s 0 = ⟨pushFin d q s.final, s.arcs⟩ := by simp [pushMid]
theorem pushMid_all (d : List Int) (q : Nat) (s : StateL) : pushMid d q s s.arcs.length = pushState d q s := by simp [pushMid, pushState]
theorem pushMid_len (d : List Int) (q : Nat) (s : StateL) (i : Nat) : (pushMid d q s i).arcs.length = s.arcs.length := by simp [pushMid]; omega
theorem pushMid_get (d : List Int) (q : Nat) (s : StateL) (i : Nat) (hi : i < s.arcs.length) : (pushMid d q s i).arcs[i]'(by rw [pushMid_len]; exact hi) = s.arcs[i] := by
  have hm : min i s.arcs.length = i := by omega
  simp only [pushMid]
  rw [List.getElem_append_right (by simp; omega)]
  simp [hm]
theorem pushMid_set (d : List Int) (q : Nat) (s : StateL) (i : Nat) (hi : i < s.arcs.length) : (pushMid d q s i).arcs.set i (pushArc d q s.arcs[i]) = (pushMid d q s (i + 1)).arcs := by
  simp only [pushMid]
  rw [List.set_append_right _ _ (by simp; omega)]
  rw [List.take_succ_eq_append_getElem hi, List.map_append, List.append_assoc]
  congr 1
  have : i - (List.map (pushArc d q) (s.arcs.take i)).length = 0 := by simp; omega
  rw [this, List.drop_eq_getElem_cons hi]
  rfl
theorem pushPart_set (d : List Int) (ss : List StateL) (q : Nat) (hq : q < ss.length) : (pushPart d ss q).set q (pushState d q ss[q]) = pushPart d ss (q + 1) := by
  apply List.ext_getElem
  · simp [pushPart]
  · intro i h1 h2
    simp only [pushPart_len] at h2
    by_cases e : q = i
    · subst e; simp [pushPart]
    · rw [List.getElem_set_ne e]
      simp only [pushPart, List.getElem_mapIdx]
      by_cases h : i < q
      · rw [if_pos h, if_pos (by omega)]
      · rw [if_neg h, if_neg (by omega)]

theorem pushStep (L : List StateL) (d : List Int) (q : Nat) (s : StateL) (i : Nat) (hi : i < s.arcs.length) (hq : q < (L.set q (pushMid d q s i)).length) (hi' : i < ((L.set q (pushMid d q s i))[q]).arcs.length) (z : Int) (hz : z = s.arcs[i].wt + (d.getD s.arcs[i].to.toNat 0 - d.getD q 0)) :
    (L.set q (pushMid d q s i)).set q ⟨((L.set q (pushMid d q s i))[q]).final, ((L.set q (pushMid d q s i))[q]).arcs.set i ⟨((L.set q (pushMid d q s i))[q]).arcs[i].inn, ((L.set q (pushMid d q s i))[q]).arcs[i].out, z, ((L.set q (pushMid d q s i))[q]).arcs[i].to⟩⟩ = L.set q (pushMid d q s (i + 1)) := by
  subst hz
  have h1 := pushMid_set d q s i hi
  have h2 := pushMid_get d q s i hi
  simp only [List.getElem_set_self, List.set_set, h2]
  congr 1
  have e : (⟨s.arcs[i].inn, s.arcs[i].out, s.arcs[i].wt + (d.getD s.arcs[i].to.toNat 0 - d.getD q 0), s.arcs[i].to⟩ : ArcL) = pushArc d q s.arcs[i] := rfl
  rw [e, h1]
  rfl
/-- d: how far an end is -/
structure DOk (d : List Int) (t : MachL) : Prop where
  len : d.length = t.states.length
  b : ∀ q, q < t.states.length → 0 ≤ d.getD q 0 ∧ d.getD q 0 ≤ 100000000
  way : ∀ q, q < t.states.length → Way (endsFirst t) (endsE t) q (d.getD q 0)
  le : ∀ q c, q < t.states.length → Way (endsFirst t) (endsE t) q c → d.getD q 0 ≤ c
section
variable {t : MachL} {d : List Int}
theorem way_RB (hv : Valid t) {q : Nat} {c : Int} (h : Way (endsFirst t) (endsE t) q c) : RB t q := by
  induction h with
  | @start q hq hw =>
    have hq' : q < t.states.length := by simpa [endsFirst] using hq
    exact Reach.start ((mem_endsOf _ _).2 ⟨hq', by simpa [endsFirst, gE] using hw⟩)
  | @step p q c w h he ih =>
    obtain ⟨p', hp, a, ha, e⟩ := (Ends_mem hv p _).1 he
    unfold fE at e
    injection e with e1 e2
    injection e2 with e2 e3
    subst e1; subst e2; subst e3
    exact RB_pre hv ih (ahead_mem.2 ⟨hp, a, ha, rfl⟩)
theorem RB_way (hv : Valid t) {q : Nat} (h : RB t q) : ∃ c, Way (endsFirst t) (endsE t) q c := by
  induction h with
  | @start q hq =>
    obtain ⟨hq', hf⟩ := (mem_endsOf _ _).1 hq
    exact ⟨_, ends_start hq' hf⟩
  | @step q p _ hp ih =>
    obtain ⟨c, hc⟩ := ih
    obtain ⟨hl, a, ha, rfl⟩ := (mem_backOf _ (to_lt hv) _ _).1 hp
    exact ⟨_, ends_step hv (hp := hl) ha hc⟩
theorem dok_of (hv : Valid t) (hr : ∀ i, i < t.states.length → RB t i) (hl : d.length = t.states.length)
    (hd : ∀ q, q < t.states.length → (d.getD q 0 = 1000000001 ∧ ∀ c, ¬ Way (endsFirst t) (endsE t) q c) ∨ (0 ≤ d.getD q 0 ∧ d.getD q 0 ≤ 100000000 ∧ Way (endsFirst t) (endsE t) q (d.getD q 0) ∧ ∀ c, Way (endsFirst t) (endsE t) q c → d.getD q 0 ≤ c)) : DOk d t := by
  have key : ∀ q, q < t.states.length → (0 ≤ d.getD q 0 ∧ d.getD q 0 ≤ 100000000 ∧ Way (endsFirst t) (endsE t) q (d.getD q 0) ∧ ∀ c, Way (endsFirst t) (endsE t) q c → d.getD q 0 ≤ c) := fun q hq => by
    rcases hd q hq with h | h
    · obtain ⟨c, hc⟩ := RB_way hv (hr q hq)
      exact absurd hc (h.2 c)
    · exact h
  exact ⟨hl, fun q hq => ⟨(key q hq).1, (key q hq).2.1⟩, fun q hq => (key q hq).2.2.1, fun q c hq hc => (key q hq).2.2.2 c hc⟩
theorem DOk.fin (h : DOk d t) {q : Nat} (hq : q < t.states.length) (hf : t.states[q].final ≠ 1000000001) : d.getD q 0 ≤ t.states[q].final := h.le q _ hq (ends_start hq hf)
theorem DOk.arc (h : DOk d t) (hv : Valid t) {q : Nat} (hq : q < t.states.length) {a : ArcL} (ha : a ∈ t.states[q].arcs) : d.getD q 0 ≤ d.getD a.to.toNat 0 + a.wt :=
  h.le q _ hq (ends_step hv (hp := hq) ha (h.way _ (to_lt hv _ (List.getElem_mem hq) a ha)))
theorem push_len (d : List Int) (t : MachL) : (pushM d t).states.length = t.states.length := by simp [pushM]
theorem push_get (d : List Int) (t : MachL) (q : Nat) (hq : q < (pushM d t).states.length) : (pushM d t).states[q] = pushState d q (t.states[q]'(by rw [push_len] at hq; exact hq)) := by simp [pushM]
theorem push_valid (hv : Valid t) (hs : ∀ s ∈ t.states, ∀ a ∈ s.arcs, a.wt ≤ 200000000) (h : DOk d t) : Valid (pushM d t) := by
  refine ⟨by rw [push_len]; exact hv.size, ?_, hv.s0, by rw [push_len]; exact hv.s1, fun s hs' => ?_⟩
  · have e : arcsOf (pushM d t).states = arcsOf t.states := by
      have hl : (pushM d t).states.map (fun s => s.arcs.length) = t.states.map (fun s => s.arcs.length) := by
        apply List.ext_getElem
        · simp [pushM]
        · intro i h1 h2
          simp [pushM, pushState]
      unfold arcsOf
      rw [hl]
    rw [e]; exact hv.arcs
  · obtain ⟨q, hq, rfl⟩ := List.getElem_of_mem hs'
    have hpl := push_len d t
    rw [hpl] at hq
    suffices H : ValidFinal (pushState d q t.states[q]).final ∧ ∀ a ∈ (pushState d q t.states[q]).arcs, ValidArc (t.states.length : Int) a by
      rw [push_get]
      exact ⟨H.1, fun a ha => by rw [hpl]; exact H.2 a ha⟩
    have hvs := hv.st _ (List.getElem_mem hq)
    have hb := h.b q hq
    have hvf := hvs.1
    unfold ValidFinal at hvf
    refine ⟨?_, fun a ha => ?_⟩
    · unfold ValidFinal
      simp only [pushState, pushFin]
      split
      · rename_i e; exact .inr e
      · rename_i e
        have := h.fin hq e
        left; omega
    · obtain ⟨b, hb', rfl⟩ := List.mem_map.1 ha
      have h1 := hvs.2 b hb'
      have h2 := h.arc hv hq hb'
      have h3 := h.b _ (to_lt hv _ (List.getElem_mem hq) b hb')
      have h4 := hs _ (List.getElem_mem hq) b hb'
      have h5 := h1.t0
      exact ⟨h1.i0, h1.i1, h1.o0, h1.o1, by simp only [pushArc]; omega, by simp only [pushArc]; omega, h1.t0, h1.t1⟩
/-- ways, weights pushed -/
theorem push_way (hv : Valid t) (hx : Valid (pushM d t)) (hd : DOk d t) {q : Nat} {c : Int} (h : Way (endsFirst t) (endsE t) q c) : Way (endsFirst (pushM d t)) (endsE (pushM d t)) q (c - d.getD q 0) := by
  induction h with
  | @start q hq hw =>
    have hq' : q < t.states.length := by simpa [endsFirst] using hq
    have hq2 : q < (pushM d t).states.length := by rw [push_len]; exact hq'
    have hf : t.states[q].final ≠ 1000000001 := by simpa [endsFirst, gE] using hw
    have e : (endsFirst t)[q] = t.states[q].final := by simp [endsFirst, gE]
    have e2 : (pushM d t).states[q].final = t.states[q].final - d.getD q 0 := by
      rw [push_get]; simp only [pushState, pushFin]; rw [if_neg hf]
    rw [e, ← e2]
    refine ends_start hq2 ?_
    have hv3 := (hv.st _ (List.getElem_mem hq')).1
    unfold ValidFinal at hv3
    have := (hd.b q hq').1
    rw [e2]
    omega
  | @step p q c w h he ih =>
    obtain ⟨p', hp, a, ha, e⟩ := (Ends_mem hv p _).1 he
    unfold fE at e
    injection e with e1 e2
    injection e2 with e2 e3
    subst e1; subst e2; subst e3
    have hp2 : p' < (pushM d t).states.length := by rw [push_len]; exact hp
    have ha2 : pushArc d p' a ∈ (pushM d t).states[p'].arcs := by rw [push_get]; exact List.mem_map_of_mem ha
    have := ends_step hx (hp := hp2) ha2 ih
    have e9 : c + a.wt - d.getD p' 0 = c - d.getD a.to.toNat 0 + (pushArc d p' a).wt := by simp only [pushArc]; omega
    rw [e9]; exact this
theorem push_zero (hv : Valid t) (hx : Valid (pushM d t)) (hd : DOk d t) {q : Nat} (hq : q < t.states.length) : Way (endsFirst (pushM d t)) (endsE (pushM d t)) q 0 := by
  have := push_way hv hx hd (hd.way q hq)
  rwa [Int.sub_self] at this
theorem way_lt (hv : Valid t) {q : Nat} {c : Int} (h : Way (endsFirst t) (endsE t) q c) : q < t.states.length := RB_lt hv (way_RB hv h)
theorem push_RA {q : Nat} (h : RA t q) : RA (pushM d t) q := by
  induction h with
  | start hq => exact Reach.start hq
  | @step q p _ hp ih =>
    obtain ⟨hl, a, ha, rfl⟩ := ahead_mem.1 hp
    have hl2 : q < (pushM d t).states.length := by rw [push_len]; exact hl
    exact ih.step (ahead_mem.2 ⟨hl2, pushArc d q a, by rw [push_get]; exact List.mem_map_of_mem ha, rfl⟩)
theorem push_trim (hv : Valid t) (hx : Valid (pushM d t)) (hd : DOk d t) (hr : ∀ i, i < t.states.length → RA t i) : trimM (pushM d t) = pushM d t :=
  trim_id hx (fun i hi => by
    rw [push_len] at hi
    exact ⟨push_RA (hr i hi), way_RB hx (push_zero hv hx hd hi)⟩)
/-- nothing is pushed where all lies at an end for 0 -/
theorem push_none (h : ∀ q, d.getD q 0 = 0) : pushM d t = t := by
  have e1 : ∀ q a, pushArc d q a = a := fun q a => by unfold pushArc; rw [h, h]; simp
  have e2 : ∀ q s, pushState d q s = s := fun q s => by
    unfold pushState pushFin
    rw [h]
    have : s.arcs.map (pushArc d q) = s.arcs := by
      rw [List.map_congr_left (fun a _ => e1 q a)]; simp
    rw [this]
    split <;> simp
  unfold pushM
  have : t.states.mapIdx (pushState d) = t.states := by
    apply List.ext_getElem
    · simp
    · intro i h1 h2; simp [e2]
  rw [this]
end
/-! how far an end is in a machine and in what is left of it when it is trimmed -/
section
variable {m : MachL} (hv : Valid m)
include hv
theorem trim_way_to {q : Nat} {c : Int} (h : Way (endsFirst m) (endsE m) q c) : RA m q → Way (endsFirst (trimM m)) (endsE (trimM m)) (idx (keepOf m) q) c := by
  have hK := keepOf_len m
  have ht := trim_valid hv
  induction h with
  | @start q hq hw =>
    intro hr
    have hq' : q < m.states.length := by simpa [endsFirst] using hq
    have hf : m.states[q].final ≠ 1000000001 := by simpa [endsFirst, gE] using hw
    have hk : (keepOf m).getD q false = true := (keep_iff hv).2 ⟨hr, Reach.start ((mem_endsOf _ _).2 ⟨hq', hf⟩)⟩
    have e : (endsFirst m)[q] = m.states[q].final := by simp [endsFirst, gE]
    obtain ⟨hl, e2⟩ := List.getElem?_eq_some_iff.1 (trim_at hK hk hq')
    have e3 : ((trimM m).states[idx (keepOf m) q]'hl).final = m.states[q].final := by
      show ((trimStates (keepOf m) m.states m.states.length)[idx (keepOf m) q]).final = _
      rw [e2]; rfl
    rw [e, ← e3]
    exact ends_start hl (by rw [e3]; exact hf)
  | @step p q c w h he ih =>
    intro hr
    obtain ⟨p', hp, a, ha, e⟩ := (Ends_mem hv p _).1 he
    unfold fE at e
    injection e with e1 e2
    injection e2 with e2 e3
    subst e1; subst e2; subst e3
    have hm : a.to.toNat ∈ aheadOf m.states p' := ahead_mem.2 ⟨hp, a, ha, rfl⟩
    have hr2 := hr.step hm
    have hb2 := way_RB hv h
    have hk : (keepOf m).getD p' false = true := (keep_iff hv).2 ⟨hr, RB_pre hv hb2 hm⟩
    have hk2 : (keepOf m).getD a.to.toNat false = true := (keep_iff hv).2 ⟨hr2, hb2⟩
    obtain ⟨hl, e4⟩ := List.getElem?_eq_some_iff.1 (trim_at hK hk hp)
    have ha2 : numArc (keepOf m) a ∈ ((trimM m).states[idx (keepOf m) p']'hl).arcs := by
      show _ ∈ ((trimStates (keepOf m) m.states m.states.length)[idx (keepOf m) p']).arcs
      rw [e4]; exact arc_trim ha hk2
    have e5 : (numArc (keepOf m) a).to.toNat = idx (keepOf m) a.to.toNat := by
      show (num (keepOf m) a.to.toNat).toNat = _
      rw [num_kept hk2]; simp
    refine ends_step (a := numArc (keepOf m) a) ht (hp := hl) ha2 ?_
    rw [e5]; exact ih hr2
theorem trim_way_of {i : Nat} {c : Int} (h : Way (endsFirst (trimM m)) (endsE (trimM m)) i c) : ∀ q, (keepOf m).getD q false = true → q < m.states.length → idx (keepOf m) q = i → Way (endsFirst m) (endsE m) q c := by
  have hK := keepOf_len m
  have ht := trim_valid hv
  induction h with
  | @start i hi hw =>
    intro q hk hq e0
    subst e0
    have hi' : idx (keepOf m) q < (trimM m).states.length := by simpa [endsFirst] using hi
    have hf : (trimM m).states[idx (keepOf m) q].final ≠ 1000000001 := by simpa [endsFirst, gE] using hw
    have e : (endsFirst (trimM m))[idx (keepOf m) q] = (trimM m).states[idx (keepOf m) q].final := by simp [endsFirst, gE]
    obtain ⟨hl, e2⟩ := List.getElem?_eq_some_iff.1 (trim_at hK hk hq)
    have e3 : ((trimM m).states[idx (keepOf m) q]'hl).final = m.states[q].final := by
      show ((trimStates (keepOf m) m.states m.states.length)[idx (keepOf m) q]).final = _
      rw [e2]; rfl
    have e4 : ((trimM m).states[idx (keepOf m) q]'hi').final = m.states[q].final := e3
    rw [e, e4]
    exact ends_start hq (by rw [← e4]; exact hf)
  | @step p i c w h he ih =>
    intro q hk hq e0
    obtain ⟨p', hp, a, ha, e⟩ := (Ends_mem ht p _).1 he
    unfold fE at e
    injection e with e1 e2
    injection e2 with e2 e3
    subst e1; subst e2; subst e3
    subst e0
    obtain ⟨hl, e4⟩ := List.getElem?_eq_some_iff.1 (trim_at hK hk hq)
    have ha2 : a ∈ trimArcs (keepOf m) m.states[q].arcs := by
      have : a ∈ ((trimStates (keepOf m) m.states m.states.length)[idx (keepOf m) q]).arcs := ha
      rw [e4] at this; exact this
    obtain ⟨b, hb, hkb, rfl⟩ := trim_arc ha2
    have hbl := to_lt hv _ (List.getElem_mem hq) b hb
    have e5 : (numArc (keepOf m) b).to.toNat = idx (keepOf m) b.to.toNat := by
      show (num (keepOf m) b.to.toNat).toNat = _
      rw [num_kept hkb]; simp
    have := ih b.to.toNat hkb hbl e5.symm
    exact ends_step (a := b) hv (hp := hq) hb this
omit hv in
theorem trim_start_eq (h0 : 0 ≤ m.start) (hk : (keepOf m).getD m.start.toNat false = true) : (trimM m).start = (idx (keepOf m) m.start.toNat : Int) := by
  show (if 0 ≤ m.start then num (keepOf m) m.start.toNat else -1) = _
  rw [if_pos h0, num_kept hk]
/-- the least of a machine is how far it is from the start of what is left -/
theorem trim_least (h0 : 0 ≤ m.start) {w : Int} {d : List Int} (hd : DOk d (trimM m))
    (hw : (w = 1000000001 ∧ ∀ c, ¬ Way (endsFirst m) (endsE m) m.start.toNat c) ∨ (0 ≤ w ∧ w ≤ 100000000 ∧ Way (endsFirst m) (endsE m) m.start.toNat w ∧ ∀ c, Way (endsFirst m) (endsE m) m.start.toNat c → w ≤ c)) :
    (w = 1000000001 ∧ (trimM m).states.length = 0 ∧ (trimM m).start < 0) ∨ (0 ≤ w ∧ w ≤ 100000000 ∧ 0 ≤ (trimM m).start ∧ (trimM m).start < (trimM m).states.length ∧ w = d.getD (trimM m).start.toNat 0) := by
  have ht := trim_valid hv
  have hs := m.start.toNat
  have hsn : m.start.toNat < m.states.length := by have := hv.s1; omega
  have hra : RA m m.start.toNat := Reach.start (by simp [startOf, h0])
  by_cases hk : (keepOf m).getD m.start.toNat false = true
  · have e := trim_start_eq h0 hk
    have hl := ht.s1
    have hq : (trimM m).start.toNat < (trimM m).states.length := by omega
    have w1 := trim_way_of hv (hd.way _ hq) m.start.toNat hk hsn (by omega)
    rcases hw with h | h
    · exact absurd w1 (h.2 _)
    · right
      refine ⟨h.1, h.2.1, by omega, hl, ?_⟩
      have h2 := h.2.2.2 _ w1
      have h3 := hd.le _ _ hq (by have := trim_way_to hv h.2.2.1 hra; rwa [show idx (keepOf m) m.start.toNat = (trimM m).start.toNat by omega] at this)
      omega
  · left
    have e : (trimM m).start < 0 := by
      show (if 0 ≤ m.start then num (keepOf m) m.start.toNat else -1) < 0
      rw [if_pos h0, num_lost hk]; omega
    refine ⟨?_, (trim_start hv).1 e, e⟩
    rcases hw with h | h
    · exact h.1
    · exact absurd ((keep_iff hv).2 ⟨hra, way_RB hv h.2.2.1⟩) hk
/-- where the start is an end something is left -/
theorem trim_some (h0 : 0 ≤ m.start) (hsn : m.start.toNat < m.states.length) (hf : m.states[m.start.toNat].final ≠ 1000000001) : 0 < (trimM m).states.length := by
  have hk : (keepOf m).getD m.start.toNat false = true := (keep_iff hv).2 ⟨Reach.start (by simp [startOf, h0]), Reach.start ((mem_endsOf _ _).2 ⟨hsn, hf⟩)⟩
  have e := trim_start_eq h0 hk
  have := (trim_valid hv).s1
  omega
omit hv in
theorem trim_wts {N : Int} (hs : ∀ s ∈ m.states, ∀ a ∈ s.arcs, a.wt ≤ N) : ∀ s ∈ (trimM m).states, ∀ a ∈ s.arcs, a.wt ≤ N := by
  have hK := keepOf_len m
  intro s hs' a ha
  obtain ⟨i, hi, rfl⟩ := List.getElem_of_mem hs'
  obtain ⟨q, hq, hk, rfl⟩ := trim_from hK i _ (Nat.le_refl _) hi
  obtain ⟨hl, e⟩ := List.getElem?_eq_some_iff.1 (trim_at hK hk hq)
  have : a ∈ ((trimStates (keepOf m) m.states m.states.length)[idx (keepOf m) q]).arcs := ha
  rw [e] at this
  obtain ⟨b, hb, -, rfl⟩ := trim_arc this
  exact hs _ (List.getElem_mem hq) b hb
omit hv in
theorem trim_small (hs : Small m) : Small (trimM m) := by
  have hK := keepOf_len m
  intro s hs'
  refine ⟨?_, fun a ha => trim_wts (fun s h => (hs s h).2) s hs' a ha⟩
  obtain ⟨i, hi, rfl⟩ := List.getElem_of_mem hs'
  obtain ⟨q, hq, hk, rfl⟩ := trim_from hK i _ (Nat.le_refl _) hi
  obtain ⟨hl, e⟩ := List.getElem?_eq_some_iff.1 (trim_at hK hk hq)
  have : ((trimStates (keepOf m) m.states m.states.length)[idx (keepOf m) q]).final = m.states[q].final := by rw [e]; rfl
  show ((trimStates (keepOf m) m.states m.states.length)[idx (keepOf m) q]).final = _ ∨ _
  have h2 := (hs _ (List.getElem_mem hq)).1
  rw [← this] at h2
  exact h2
end
/-- what holds of a pushed machine -/
theorem push_pack {m : MachL} (hv : Valid m) (hs : Small m) {d : List Int} (hd : DOk d (trimM m)) :
    Valid (pushM d (trimM m)) ∧ trimM (pushM d (trimM m)) = pushM d (trimM m) ∧ (∀ q, q < (pushM d (trimM m)).states.length → Way (endsFirst (pushM d (trimM m))) (endsE (pushM d (trimM m))) q 0) ∧
    (∀ s ∈ (pushM d (trimM m)).states, ∀ a ∈ s.arcs, a.wt ≤ 200000000) ∧ (pushM d (trimM m)).start = (trimM m).start ∧ (pushM d (trimM m)).states.length = (trimM m).states.length := by
  have ht := trim_valid hv
  have hts := trim_small hs
  have hx := push_valid ht (fun s h a ha => by have := (hts s h).2 a ha; omega) hd
  refine ⟨hx, push_trim ht hx hd (fun i hi => (trim_all hv hi).1), fun q hq => push_zero ht hx hd (by rw [push_len] at hq; exact hq), fun s h a ha => ?_, rfl, push_len _ _⟩
  obtain ⟨q, hq, rfl⟩ := List.getElem_of_mem h
  rw [push_get] at ha
  rw [push_len] at hq
  obtain ⟨b, hb, rfl⟩ := List.mem_map.1 ha
  have h1 := (hts _ (List.getElem_mem hq)).2 b hb
  have h2 := hd.b _ (to_lt ht _ (List.getElem_mem hq) b hb)
  have h3 := hd.b q hq
  simp only [pushArc]
  omega
theorem zero_of {x : MachL} (hz : ∀ q, q < x.states.length → Way (endsFirst x) (endsE x) q 0) {d : List Int} (hd : DOk d x) (q : Nat) : d.getD q 0 = 0 := by
  rcases Nat.lt_or_ge q x.states.length with h | h
  · have := hd.le q 0 h (hz q h)
    have := (hd.b q h).1
    omega
  · have hl := hd.len
    rw [List.getD_eq_getElem?_getD, List.getElem?_eq_none (by omega)]; rfl
end Go.Proofs.Ytndajklppipckaa
