/- The longest way to each state: what topo.Longest holds on its way (plain). -/
import Derived.Test.YteniblkmokpjjaaPathsPlain
namespace Go.Proofs.Yteniblkmokpjjaa

/-- a way of so many arcs leads from s to the state -/
inductive Way (m : MachL) (s : Nat) : Nat → Nat → Prop
  | zero : Way m s s 0
  | step {p q k : Nat} : Way m s p k → q ∈ tos m p → Way m s q (k + 1)
/-- b arcs are the most of any way to an end -/
structure Farthest (m : MachL) (s b : Nat) : Prop where
  has : ∃ q, finB m q = true ∧ Way m s q b
  le : ∀ q k, finB m q = true → Way m s q k → k ≤ b
theorem plen (pre : List Nat) (q : Nat) : ((pre ++ [q]).length : Int) = pre.length + 1 := by rw [List.length_append, List.length_singleton]; omega
/-- pre: the states that are through; pre2: these, or these and the one whose turn it is -/
structure LInv (m : MachL) (s : Nat) (pre pre2 : List Nat) (far : List Int) : Prop where
  len : far.length = m.states.length
  lo : ∀ r, r < m.states.length → -1 ≤ far.getD r 0
  hi : ∀ r, r < m.states.length → far.getD r 0 ≤ pre.length
  way : ∀ r, r < m.states.length → 0 ≤ far.getD r 0 → Way m s r (far.getD r 0).toNat
  up : ∀ p ∈ pre, 0 ≤ far.getD p 0 → ∀ r ∈ tos m p, far.getD p 0 + 1 ≤ far.getD r 0
  st : s ∈ pre2 → 0 ≤ far.getD s 0
  neg : s ∉ pre2 → ∀ r, r < m.states.length → far.getD r 0 = -1
structure LB (m : MachL) (s : Nat) (pre : List Nat) (far : List Int) (b : Int) : Prop where
  b0 : -1 ≤ b
  b1 : b ≤ pre.length
  bw : 0 ≤ b → ∃ q, finB m q = true ∧ Way m s q b.toNat
  bh : ∀ q ∈ pre, finB m q = true → far.getD q 0 ≤ b
/-- while the arcs of q are gone through; l: how far q is -/
structure LIn (m : MachL) (s : Nat) (pre : List Nat) (q t : Nat) (l : Int) (far : List Int) : Prop where
  len : far.length = m.states.length
  lo : ∀ r, r < m.states.length → -1 ≤ far.getD r 0
  hi : ∀ r, r < m.states.length → far.getD r 0 ≤ pre.length + 1
  l0 : 0 ≤ l
  l1 : l ≤ pre.length
  atq : far.getD q 0 = l
  way : ∀ r, r < m.states.length → 0 ≤ far.getD r 0 → Way m s r (far.getD r 0).toNat
  up : ∀ p ∈ pre, 0 ≤ far.getD p 0 → ∀ r ∈ tos m p, far.getD p 0 + 1 ≤ far.getD r 0
  upq : ∀ r ∈ (tos m q).take t, l + 1 ≤ far.getD r 0
  st : s ∈ pre ++ [q] → 0 ≤ far.getD s 0
  neg : s ∈ pre ++ [q]
section
variable {m : MachL} {out : List Nat} {s : Nat} {far : List Int} {b : Int} {pre post : List Nat} {q : Nat}
theorem LInv.first (h : far.length = m.states.length) (hf : ∀ r, r < m.states.length → far.getD r 0 = -1) : LInv m s [] [] far :=
  ⟨h, fun r hr => by rw [hf r hr]; omega, fun r hr => by rw [hf r hr]; simp, fun r hr h0 => by rw [hf r hr] at h0; omega, fun p hp => (List.not_mem_nil hp).elim, fun hp => (List.not_mem_nil hp).elim, fun _ => hf⟩
theorem LB.first : LB m s [] far (-1) := ⟨by omega, by simp, fun h0 => by omega, fun q hq => (List.not_mem_nil hq).elim⟩
theorem IsTopo.fresh (h : IsTopo m out) (e : out = pre ++ q :: post) : q ∉ pre ∧ q < m.states.length := by
  refine ⟨fun hx => ?_, h.lt q (by rw [e]; simp)⟩
  have hd := h.nd
  rw [e, List.nodup_append] at hd
  exact hd.2.2 q hx q (by simp) rfl
/-- the start's turn -/
theorem LInv.start (h : IsTopo m out) (e : out = pre ++ s :: post) (hI : LInv m s pre pre far) (hb : LB m s pre far b) : LInv m s pre (pre ++ [s]) (far.set s 0) ∧ LB m s pre (far.set s 0) b ∧ (far.set s 0).getD s 0 = 0 := by
  obtain ⟨hs, hsn⟩ := h.fresh e
  have hn := hI.neg hs
  have hg : ∀ r, (far.set s 0).getD r 0 = if r = s then 0 else far.getD r 0 := getDset far s 0 (by rw [hI.len]; exact hsn)
  refine ⟨⟨by rw [List.length_set]; exact hI.len, fun r hr => ?_, fun r hr => ?_, fun r hr h0 => ?_, fun p hp h0 => ?_, fun _ => ?_, fun hp => absurd (by simp) hp⟩, ⟨hb.b0, hb.b1, hb.bw, fun q hq => ?_⟩, by rw [hg, if_pos rfl]⟩
  · rw [hg]; split
    · omega
    · exact hI.lo r hr
  · rw [hg]; split
    · omega
    · exact hI.hi r hr
  · rw [hg] at h0 ⊢
    split
    · rename_i hrs; subst hrs; exact Way.zero
    · rename_i hrs
      rw [if_neg hrs, hn r hr] at h0; omega
  · have hps : p ≠ s := fun h => hs (h ▸ hp)
    rw [hg, if_neg hps, hn p (h.lt p (by rw [e]; simp [hp]))] at h0
    omega
  · rw [hg, if_pos rfl]; omega
  · have hqs : q ≠ s := fun h => hs (h ▸ hq)
    rw [hg, if_neg hqs]
    exact hb.bh q hq
theorem LInv.other (hI : LInv m s pre pre far) (hq : q ≠ s) : LInv m s pre (pre ++ [q]) far :=
  ⟨hI.len, hI.lo, hI.hi, hI.way, hI.up, fun hs => hI.st (by
    rcases List.mem_append.1 hs with h | h
    · exact h
    · simp at h; exact absurd h.symm hq), fun hs => hI.neg (fun h => hs (by simp [h]))⟩
/-- a state to which no way leads -/
theorem LInv.skip (hI : LInv m s pre (pre ++ [q]) far) (hb : LB m s pre far b) (h0 : far.getD q 0 < 0) : LInv m s (pre ++ [q]) (pre ++ [q]) far ∧ LB m s (pre ++ [q]) far b := by
  refine ⟨⟨hI.len, hI.lo, fun r hr => ?_, hI.way, fun p hp h1 => ?_, hI.st, hI.neg⟩, ⟨hb.b0, ?_, hb.bw, fun p hp hf => ?_⟩⟩
  · have := hI.hi r hr; rw [plen]; omega
  · rcases List.mem_append.1 hp with h | h
    · exact hI.up p h h1
    · simp at h; subst h; omega
  · have := hb.b1; rw [plen]; omega
  · rcases List.mem_append.1 hp with h | h
    · exact hb.bh p h hf
    · simp at h; subst h; have := hb.b0; omega
theorem LInv.into (hI : LInv m s pre (pre ++ [q]) far) (hq : q < m.states.length) (h0 : 0 ≤ far.getD q 0) : LIn m s pre q 0 (far.getD q 0) far :=
  ⟨hI.len, hI.lo, fun r hr => by have := hI.hi r hr; omega, h0, hI.hi q hq, rfl, hI.way, hI.up, fun r hr => by simp at hr, hI.st, Classical.byContradiction fun hn => by have := hI.neg hn q hq; omega⟩
/-- an end whose turn it is -/
theorem LB.fin (hb : LB m s pre far b) (hI : LInv m s pre (pre ++ [q]) far) (hq : q < m.states.length) (h0 : 0 ≤ far.getD q 0) (hf : finB m q = true) : LB m s (pre ++ [q]) far (max b (far.getD q 0)) := by
  refine ⟨by have := hb.b0; omega, ?_, fun h => ?_, fun p hp h1 => ?_⟩
  · have := hb.b1; have := hI.hi q hq; rw [plen]; omega
  · rcases Int.le_total b (far.getD q 0) with hl | hl
    · rw [Int.max_eq_right hl]; exact ⟨q, hf, hI.way q hq h0⟩
    · rw [Int.max_eq_left hl]; exact hb.bw (by omega)
  · rcases List.mem_append.1 hp with h | h
    · have := hb.bh p h h1; omega
    · simp at h; subst h; omega
theorem LB.nofin (hb : LB m s pre far b) (hf : finB m q = false) : LB m s (pre ++ [q]) far b := by
  refine ⟨hb.b0, ?_, hb.bw, fun p hp h1 => ?_⟩
  · have := hb.b1; rw [plen]; omega
  · rcases List.mem_append.1 hp with h | h
    · exact hb.bh p h h1
    · simp at h; subst h; rw [hf] at h1; cases h1
theorem tos_lt (hv : Valid m) {p q : Nat} (h : q ∈ tos m p) : q < m.states.length := by
  unfold tos at h
  rcases Nat.lt_or_ge p m.states.length with hp | hp
  · rw [List.getElem?_eq_getElem hp] at h
    simp only [Option.map_some, Option.getD_some] at h
    obtain ⟨a, ha, rfl⟩ := List.mem_map.1 h
    have h1 := (hv.st _ (List.getElem_mem hp)).2 a ha
    have := h1.t0; have := h1.t1
    omega
  · rw [List.getElem?_eq_none hp] at h; simp at h
theorem LIn.step (h : IsTopo m out) (e : out = pre ++ q :: post) {t r : Nat} {l : Int} (hI : LIn m s pre q t l far) (hb : LB m s (pre ++ [q]) far b) (ht : t < (tos m q).length) (hr : (tos m q)[t] = r) (hn : r < m.states.length) :
    LIn m s pre q (t + 1) l (far.set r (max (far.getD r 0) (l + 1))) ∧ LB m s (pre ++ [q]) (far.set r (max (far.getD r 0) (l + 1))) b := by
  have hm : r ∈ tos m q := by rw [← hr]; exact List.getElem_mem ht
  have hno := h.notin e hm hn
  obtain ⟨-, hqn⟩ := h.fresh e
  have hg : ∀ x, (far.set r (max (far.getD r 0) (l + 1))).getD x 0 = if x = r then max (far.getD r 0) (l + 1) else far.getD x 0 := getDset far r _ (by rw [hI.len]; exact hn)
  have hge : ∀ x, far.getD x 0 ≤ (far.set r (max (far.getD r 0) (l + 1))).getD x 0 := fun x => by
    rw [hg]; split
    · rename_i hx; subst hx; omega
    · omega
  have hpr : ∀ p ∈ pre ++ [q], (far.set r (max (far.getD r 0) (l + 1))).getD p 0 = far.getD p 0 := fun p hp => by
    have hne : p ≠ r := fun hx => hno (hx ▸ hp)
    rw [hg, if_neg hne]
  have hl0 := hI.l0; have hl1 := hI.l1
  refine ⟨⟨by rw [List.length_set]; exact hI.len, fun x hx => ?_, fun x hx => ?_, hI.l0, hI.l1, ?_, fun x hx h0 => ?_, fun p hp h0 x hx => ?_, fun x hx => ?_, fun hs => ?_, hI.neg⟩, ⟨hb.b0, hb.b1, hb.bw, fun p hp hf => ?_⟩⟩
  · have := hI.lo x hx; have := hge x; omega
  · rw [hg]; split
    · have := hI.hi r hn; omega
    · exact hI.hi x hx
  · rw [hpr q (by simp)]; exact hI.atq
  · rw [hg] at h0 ⊢
    split
    · rename_i hx; subst hx
      rcases Int.le_total (far.getD x 0) (l + 1) with hl | hl
      · rw [Int.max_eq_right hl]
        have hw := hI.way q hqn (by rw [hI.atq]; omega)
        rw [hI.atq] at hw
        have := Way.step hw hm
        have e : (l + 1).toNat = l.toNat + 1 := by omega
        rw [e]; exact this
      · rw [Int.max_eq_left hl]; exact hI.way x hn (by omega)
    · rename_i hxr
      rw [if_neg hxr] at h0
      exact hI.way x hx h0
  · rw [hpr p (by simp [hp])] at h0 ⊢
    have := hI.up p hp h0 x hx; have := hge x; omega
  · rw [List.take_succ_eq_append_getElem ht, hr] at hx
    rcases List.mem_append.1 hx with h | h
    · have := hI.upq x h; have := hge x; omega
    · simp at h; subst h; rw [hg, if_pos rfl]; omega
  · have := hI.st hs; have := hge s; omega
  · rw [hpr p hp]; exact hb.bh p hp hf
theorem LIn.done {l : Int} (hI : LIn m s pre q (tos m q).length l far) : LInv m s (pre ++ [q]) (pre ++ [q]) far := by
  refine ⟨hI.len, hI.lo, fun r hr => by have := hI.hi r hr; rw [plen]; omega, hI.way, fun p hp h0 r hr => ?_, hI.st, fun hs => absurd hI.neg hs⟩
  rcases List.mem_append.1 hp with h | h
  · exact hI.up p h h0 r hr
  · simp at h; subst h
    rw [hI.atq]
    exact hI.upq r (by rw [List.take_length]; exact hr)
theorem LInv.full (hv : Valid m) (h : IsTopo m out) (hs : s < m.states.length) (hI : LInv m s out out far) : ∀ q k, Way m s q k → q < m.states.length ∧ (k : Int) ≤ far.getD q 0 := by
  intro q k hw
  induction hw with
  | zero => exact ⟨hs, by have := hI.st (h.all s hs); omega⟩
  | step hw hq ih =>
    have := hI.up _ (h.all _ ih.1) (by omega) _ hq
    exact ⟨tos_lt hv hq, by omega⟩
theorem finB_lt (h : finB m q = true) : q < m.states.length := by
  unfold finB at h
  rcases Nat.lt_or_ge q m.states.length with hp | hp
  · exact hp
  · rw [List.getElem?_eq_none hp] at h; simp at h
theorem LB.some (hv : Valid m) (h : IsTopo m out) (hs : s < m.states.length) (hI : LInv m s out out far) (hb : LB m s out far b) (h0 : 0 ≤ b) : Farthest m s b.toNat :=
  ⟨hb.bw h0, fun q k hf hw => by
    have := (hI.full hv h hs q k hw).2
    have := hb.bh q (h.all q (finB_lt hf)) hf
    omega⟩
theorem LB.none (hv : Valid m) (h : IsTopo m out) (hs : s < m.states.length) (hI : LInv m s out out far) (hb : LB m s out far b) (h0 : b < 0) (q k : Nat) (hf : finB m q = true) : ¬ Way m s q k := fun hw => by
  have := (hI.full hv h hs q k hw).2
  have := hb.bh q (h.all q (finB_lt hf)) hf
  omega
end
end Go.Proofs.Yteniblkmokpjjaa
