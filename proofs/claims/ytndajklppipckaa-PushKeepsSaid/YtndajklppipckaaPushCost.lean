/- What words cost in a trimmed, a pushed and a pulled machine (plain). -/
import Derived.Test.YtndajklppipckaaPushPlain
import Derived.Test.YtndajklppipckaaAcc
import Derived.Test.YtndajklppipckaaCostMade
namespace Go.Proofs.Ytndajklppipckaa

def pullState (n : Int) (s : StateL) : StateL := ⟨if s.final = 1000000001 then s.final else s.final + n, s.arcs⟩
def pullM (n : Int) (t : MachL) : MachL := ⟨t.start, t.states.map (pullState n)⟩
theorem pull_len (n : Int) (t : MachL) : (pullM n t).states.length = t.states.length := by simp [pullM]
section
variable {m : MachL} (hv : Valid m)
include hv
theorem accW_RB {q : Nat} {x y : List Int} {c : Int} (h : AccW m q x y c) : RB m q := by
  induction h with
  | @fin q s hs hf =>
    obtain ⟨hl, rfl⟩ := List.getElem?_eq_some_iff.1 hs
    exact Reach.start ((mem_endsOf _ _).2 ⟨hl, hf⟩)
  | @arc q s a x y c hs ha _ ih =>
    obtain ⟨hl, rfl⟩ := List.getElem?_eq_some_iff.1 hs
    exact RB_pre hv ih (ahead_mem.2 ⟨hl, a, ha, rfl⟩)
theorem accW_trim {q : Nat} {x y : List Int} {c : Int} (h : AccW m q x y c) : RA m q → AccW (trimM m) (idx (keepOf m) q) x y c := by
  have hK := keepOf_len m
  induction h with
  | @fin q s hs hf =>
    intro hr
    obtain ⟨hl, rfl⟩ := List.getElem?_eq_some_iff.1 hs
    have hk : (keepOf m).getD q false = true := (keep_iff hv).2 ⟨hr, Reach.start ((mem_endsOf _ _).2 ⟨hl, hf⟩)⟩
    have e : (trimM m).states[idx (keepOf m) q]? = some (trimState (keepOf m) m.states[q]) := trim_at hK hk hl
    exact AccW.fin (s := trimState (keepOf m) m.states[q]) e hf
  | @arc q s a x y c hs ha hacc ih =>
    intro hr
    obtain ⟨hl, rfl⟩ := List.getElem?_eq_some_iff.1 hs
    have hm : a.to.toNat ∈ aheadOf m.states q := ahead_mem.2 ⟨hl, a, ha, rfl⟩
    have hr2 := hr.step hm
    have hb2 := accW_RB hv hacc
    have hk : (keepOf m).getD q false = true := (keep_iff hv).2 ⟨hr, RB_pre hv hb2 hm⟩
    have hk2 : (keepOf m).getD a.to.toNat false = true := (keep_iff hv).2 ⟨hr2, hb2⟩
    have e : (trimM m).states[idx (keepOf m) q]? = some (trimState (keepOf m) m.states[q]) := trim_at hK hk hl
    have e5 : (numArc (keepOf m) a).to.toNat = idx (keepOf m) a.to.toNat := by
      show (num (keepOf m) a.to.toNat).toNat = _
      rw [num_kept hk2]; simp
    exact AccW.arc (a := numArc (keepOf m) a) e (arc_trim ha hk2) (by rw [e5]; exact ih hr2)
theorem trim_accW {i : Nat} {x y : List Int} {c : Int} (h : AccW (trimM m) i x y c) : ∀ q, (keepOf m).getD q false = true → q < m.states.length → idx (keepOf m) q = i → AccW m q x y c := by
  have hK := keepOf_len m
  induction h with
  | @fin i s hs hf =>
    intro q hk hq e0
    subst e0
    have e : (trimM m).states[idx (keepOf m) q]? = some (trimState (keepOf m) m.states[q]) := trim_at hK hk hq
    rw [e] at hs
    injection hs with hs
    subst hs
    exact AccW.fin (s := m.states[q]) (List.getElem?_eq_getElem hq) hf
  | @arc i s a x y c hs ha hacc ih =>
    intro q hk hq e0
    subst e0
    have e : (trimM m).states[idx (keepOf m) q]? = some (trimState (keepOf m) m.states[q]) := trim_at hK hk hq
    rw [e] at hs
    injection hs with hs
    subst hs
    obtain ⟨b, hb, hkb, rfl⟩ := trim_arc ha
    have e5 : (numArc (keepOf m) b).to.toNat = idx (keepOf m) b.to.toNat := by
      show (num (keepOf m) b.to.toNat).toNat = _
      rw [num_kept hkb]; simp
    exact AccW.arc (a := b) (List.getElem?_eq_getElem hq) hb (ih b.to.toNat hkb (to_lt hv _ (List.getElem_mem hq) b hb) e5.symm)
/-- trimmed, words cost the same -/
theorem trim_tot (h0 : 0 ≤ m.start) (x y : List Int) (c : Int) : Tot (trimM m) x y false c ↔ Tot m x y false c := by
  have hsn : m.start.toNat < m.states.length := by have := hv.s1; omega
  have hra : RA m m.start.toNat := Reach.start (by simp [startOf, h0])
  rw [tot_accW, tot_accW]
  constructor
  · rintro ⟨h1, h2⟩
    have hk : (keepOf m).getD m.start.toNat false = true := by
      apply Classical.byContradiction
      intro hk
      have : (trimM m).start < 0 := by
        show (if 0 ≤ m.start then num (keepOf m) m.start.toNat else -1) < 0
        rw [if_pos h0, num_lost hk]; omega
      omega
    have e := trim_start_eq h0 hk
    exact ⟨h0, trim_accW hv h2 m.start.toNat hk hsn (by omega)⟩
  · rintro ⟨_, h2⟩
    have hk : (keepOf m).getD m.start.toNat false = true := (keep_iff hv).2 ⟨hra, accW_RB hv h2⟩
    have e := trim_start_eq h0 hk
    refine ⟨by omega, ?_⟩
    have := accW_trim hv h2 hra
    rwa [show idx (keepOf m) m.start.toNat = (trimM m).start.toNat by omega] at this
end
section
variable {t : MachL} {d : List Int}
theorem push_get? (d : List Int) (t : MachL) (q : Nat) : (pushM d t).states[q]? = (t.states[q]?).map (pushState d q) := by simp [pushM, List.getElem?_mapIdx]
theorem accW_push (hv : Valid t) (hd : DOk d t) {q : Nat} {x y : List Int} {c : Int} (h : AccW t q x y c) : AccW (pushM d t) q x y (c - d.getD q 0) := by
  induction h with
  | @fin q s hs hf =>
    obtain ⟨hl, hs2⟩ := List.getElem?_eq_some_iff.1 hs
    have hv3 := (hv.st _ (List.mem_of_getElem? hs)).1
    unfold ValidFinal at hv3
    have hb := (hd.b q hl).1
    have e : (pushState d q s).final = s.final - d.getD q 0 := if_neg hf
    rw [← e]
    refine AccW.fin (by rw [push_get?, hs]; rfl) ?_
    rw [e]
    have : INF = 1000000001 := rfl
    omega
  | @arc q s a x y c hs ha _ ih =>
    have e : a.wt + c - d.getD q 0 = (pushArc d q a).wt + (c - d.getD a.to.toNat 0) := by simp only [pushArc]; omega
    rw [e]
    exact AccW.arc (a := pushArc d q a) (by rw [push_get?, hs]; rfl) (List.mem_map_of_mem ha) ih
theorem push_accW {q : Nat} {x y : List Int} {c : Int} (h : AccW (pushM d t) q x y c) : AccW t q x y (c + d.getD q 0) := by
  induction h with
  | @fin q s hs hf =>
    rw [push_get?] at hs
    cases hs0 : t.states[q]? with
    | none => rw [hs0] at hs; cases hs
    | some s0 =>
      rw [hs0] at hs
      injection hs with hs
      subst hs
      have hf0 : s0.final ≠ 1000000001 := fun e => hf (by show pushFin d q s0.final = _; unfold pushFin; rw [if_pos e, e])
      have e : (pushState d q s0).final = s0.final - d.getD q 0 := if_neg hf0
      rw [e, Int.sub_add_cancel]
      exact AccW.fin hs0 hf0
  | @arc q s a x y c hs ha _ ih =>
    rw [push_get?] at hs
    cases hs0 : t.states[q]? with
    | none => rw [hs0] at hs; cases hs
    | some s0 =>
      rw [hs0] at hs
      injection hs with hs
      subst hs
      obtain ⟨b, hb, rfl⟩ := List.mem_map.1 ha
      have e : (pushArc d q b).wt + c + d.getD q 0 = b.wt + (c + d.getD b.to.toNat 0) := by simp only [pushArc]; omega
      rw [e]
      exact AccW.arc (a := b) hs0 hb ih
theorem pull_get? (n : Int) (t : MachL) (q : Nat) : (pullM n t).states[q]? = (t.states[q]?).map (pullState n) := by simp [pullM]
theorem accW_pull {n : Int} (hn : ∀ s ∈ t.states, s.final ≠ 1000000001 → s.final + n ≠ 1000000001) {q : Nat} {x y : List Int} {c : Int} (h : AccW t q x y c) : AccW (pullM n t) q x y (c + n) := by
  induction h with
  | @fin q s hs hf =>
    have e : (pullState n s).final = s.final + n := if_neg hf
    rw [← e]
    refine AccW.fin (by rw [pull_get?, hs]; rfl) ?_
    rw [e]
    exact hn s (List.mem_of_getElem? hs) hf
  | @arc q s a x y c hs ha _ ih =>
    rw [Int.add_assoc]
    exact AccW.arc (s := pullState n s) (by rw [pull_get?, hs]; rfl) ha ih
theorem pull_accW {n : Int} {q : Nat} {x y : List Int} {c : Int} (h : AccW (pullM n t) q x y c) : AccW t q x y (c - n) := by
  induction h with
  | @fin q s hs hf =>
    rw [pull_get?] at hs
    cases hs0 : t.states[q]? with
    | none => rw [hs0] at hs; cases hs
    | some s0 =>
      rw [hs0] at hs
      injection hs with hs
      subst hs
      have hf0 : s0.final ≠ 1000000001 := fun e => hf (by show (if s0.final = 1000000001 then s0.final else s0.final + n) = _; rw [if_pos e, e])
      have e : (pullState n s0).final = s0.final + n := if_neg hf0
      rw [e, Int.add_sub_cancel]
      exact AccW.fin hs0 hf0
  | @arc q s a x y c hs ha _ ih =>
    rw [pull_get?] at hs
    cases hs0 : t.states[q]? with
    | none => rw [hs0] at hs; cases hs
    | some s0 =>
      rw [hs0] at hs
      injection hs with hs
      subst hs
      have e : a.wt + c - n = a.wt + (c - n) := by omega
      rw [e]
      exact AccW.arc hs0 ha ih
theorem push_tot (hv : Valid t) (hd : DOk d t) (x y : List Int) (c : Int) : Tot t x y false c ↔ Tot (pushM d t) x y false (c - d.getD t.start.toNat 0) := by
  rw [tot_accW, tot_accW]
  constructor
  · rintro ⟨h1, h2⟩; exact ⟨h1, accW_push hv hd h2⟩
  · rintro ⟨h1, h2⟩
    have := push_accW h2
    refine ⟨h1, ?_⟩
    rwa [show c - d.getD t.start.toNat 0 + d.getD (pushM d t).start.toNat 0 = c by show c - _ + d.getD t.start.toNat 0 = c; omega] at this
theorem pull_tot {n : Int} (hn : ∀ s ∈ t.states, s.final ≠ 1000000001 → s.final + n ≠ 1000000001) (x y : List Int) (c : Int) : Tot t x y false c ↔ Tot (pullM n t) x y false (c + n) := by
  rw [tot_accW, tot_accW]
  constructor
  · rintro ⟨h1, h2⟩; exact ⟨h1, accW_pull hn h2⟩
  · rintro ⟨h1, h2⟩
    have := pull_accW h2
    refine ⟨h1, ?_⟩
    rwa [Int.add_sub_cancel] at this
end
/-- what is answered of two costs -/
theorem both_best {T T' : Int → Prop} {n c cx : Int} (hn0 : 0 ≤ n) (hn1 : n ≤ 100000000) (h : Best T c) (hx : Best T' cx) (e : ∀ c, T c ↔ T' (c - n)) : bothV n cx = c := by
  have hI : INF = 1000000001 := rfl
  have e2 : ∀ c, T' c → T (c + n) := fun c h => (e _).2 (by rwa [Int.add_sub_cancel])
  unfold bothV
  rcases h with ⟨h1, h2⟩ | ⟨h1, h2, h3⟩
  · rcases hx with ⟨k1, k2⟩ | ⟨k1, k2, k3⟩
    · rw [if_pos (.inr k1)]; exact h1.symm
    · exact absurd (e2 _ k1) (h2 _)
  · rcases hx with ⟨k1, k2⟩ | ⟨k1, k2, k3⟩
    · exact absurd ((e _).1 h1) (k2 _)
    · have := h2 _ (e2 _ k1)
      have := k2 _ ((e _).1 h1)
      rw [if_neg (by omega)]
      omega
theorem trim_mem {m : MachL} {s : StateL} (h : s ∈ (trimM m).states) : ∃ s0 ∈ m.states, s = trimState (keepOf m) s0 := by
  have hK := keepOf_len m
  obtain ⟨i, hi, rfl⟩ := List.getElem_of_mem h
  obtain ⟨q, hq, hk, rfl⟩ := trim_from hK i _ (Nat.le_refl _) hi
  obtain ⟨hl, e⟩ := List.getElem?_eq_some_iff.1 (trim_at hK hk hq)
  exact ⟨_, List.getElem_mem hq, e⟩
theorem trim_little {m : MachL} {n AA : Nat} (h : Little m n AA) : Little (trimM m) n AA := by
  refine ⟨Nat.le_trans (trim_len_le (keepOf_len m)) h.len, fun s hs a ha => ?_, fun s hs hf => ?_, fun s hs => ?_⟩
  · obtain ⟨s0, h0, rfl⟩ := trim_mem hs
    obtain ⟨b, hb, -, rfl⟩ := trim_arc ha
    exact h.wt s0 h0 b hb
  · obtain ⟨s0, h0, rfl⟩ := trim_mem hs
    exact h.fin s0 h0 hf
  · obtain ⟨s0, h0, rfl⟩ := trim_mem hs
    exact Nat.le_trans (trimArcs_len _ _) (h.arcs s0 h0)
theorem dok_little {t : MachL} {d : List Int} {n AA : Nat} (hv : Valid t) (h : Little t n AA) (hd : DOk d t) {q : Nat} (hq : q < t.states.length) : d.getD q 0 ≤ 9 * n := by
  obtain ⟨c', hc, hl⟩ := way_small (F := 9) (W := 9) (Ends_ok hv) (fun x hx => by
    obtain ⟨s, hss, rfl⟩ := List.mem_map.1 hx
    by_cases e : s.final = 1000000001
    · exact .inl e
    · exact .inr (h.fin s hss e)) (fun l hl e he => by
    obtain ⟨q, hq, rfl⟩ := List.getElem_of_mem hl
    have hg : (endsE t).getD q [] = (endsE t)[q] := by simp [List.getD_eq_getElem?_getD, hq]
    rw [← hg] at he
    obtain ⟨p, hp, a, ha, e⟩ := (Ends_mem hv q _).1 he
    unfold fE at e
    injection e with _ e
    subst e
    exact h.wt _ (List.getElem_mem hp) a ha) (by omega) (hd.way q hq)
  have := hd.le q c' hq hc
  have := h.len
  omega
/-- costs of a pushed machine, and of one that is pulled again -/
theorem push_ok {t : MachL} {d : List Int} (hv : Valid t) (h : Little t 6 4) (hd : DOk d t) {n : Int} (hn0 : 0 ≤ n) (hn1 : n ≤ 54) {lx ly : Nat} (hx : lx ≤ 4) (hy : ly ≤ 4) : CostOk (pushM d t) lx ly ∧ CostOk (pullM n (pushM d t)) lx ly ∧ (∀ s ∈ (pushM d t).states, s.final ≠ 1000000001 → s.final ≤ 9 ∧ 0 ≤ s.final) := by
  have hI : INF = 1000000001 := rfl
  have hw : ∀ s ∈ (pushM d t).states, ∀ a ∈ s.arcs, a.wt ≤ 63 := fun s hs a ha => by
    obtain ⟨q, hq, rfl⟩ := List.getElem_of_mem hs
    rw [push_get] at ha
    rw [push_len] at hq
    obtain ⟨b, hb, rfl⟩ := List.mem_map.1 ha
    have h1 := h.wt _ (List.getElem_mem hq) b hb
    have h2 := dok_little hv h hd (to_lt hv _ (List.getElem_mem hq) b hb)
    have h3 := (hd.b q hq).1
    simp only [pushArc]
    omega
  have hf : ∀ s ∈ (pushM d t).states, s.final ≠ 1000000001 → s.final ≤ 9 ∧ 0 ≤ s.final := fun s hs hne => by
    obtain ⟨q, hq, rfl⟩ := List.getElem_of_mem hs
    rw [push_get] at hne ⊢
    rw [push_len] at hq
    have hf0 : t.states[q].final ≠ 1000000001 := fun e => hne (by show pushFin d q t.states[q].final = _; unfold pushFin; rw [if_pos e, e])
    have e : (pushState d q t.states[q]).final = t.states[q].final - d.getD q 0 := if_neg hf0
    rw [e]
    have h1 := h.fin _ (List.getElem_mem hq) hf0
    have h3 := (hd.b q hq).1
    have h4 := hd.fin hq hf0
    omega
  have ha : ∀ s ∈ (pushM d t).states, s.arcs.length ≤ 4 := fun s hs => by
    obtain ⟨q, hq, rfl⟩ := List.getElem_of_mem hs
    rw [push_get]
    rw [push_len] at hq
    have := h.arcs _ (List.getElem_mem hq)
    simpa [pushState] using this
  have hl : (pushM d t).states.length ≤ 6 := by rw [push_len]; exact h.len
  refine ⟨costOk_of 6 4 4 63 9 4 hl hx hy (by omega) (by omega) hw (fun s hs hne => (hf s hs hne).1) ha (by omega) (by omega), costOk_of 6 4 4 63 63 4 (by rw [pull_len]; exact hl) hx hy (by omega) (by omega) (fun s hs a ha' => ?_) (fun s hs hne => ?_) (fun s hs => ?_) (by omega) (by omega), hf⟩
  · obtain ⟨s0, h0, rfl⟩ := List.mem_map.1 hs
    exact hw s0 h0 a ha'
  · obtain ⟨s0, h0, rfl⟩ := List.mem_map.1 hs
    have hf0 : s0.final ≠ 1000000001 := fun e => hne (by show (if s0.final = 1000000001 then s0.final else s0.final + n) = _; rw [if_pos e, e])
    have e : (pullState n s0).final = s0.final + n := if_neg hf0
    rw [e]
    have := (hf s0 h0 hf0).1
    omega
  · obtain ⟨s0, h0, rfl⟩ := List.mem_map.1 hs
    exact ha s0 h0
theorem pull_valid {t : MachL} (hv : Valid t) {n : Int} (hn : ∀ s ∈ t.states, s.final ≠ 1000000001 → 0 ≤ s.final + n ∧ s.final + n ≤ 1000000000) : Valid (pullM n t) := by
  refine ⟨by rw [pull_len]; exact hv.size, ?_, hv.s0, by rw [pull_len]; exact hv.s1, fun s hs => ?_⟩
  · have e : arcsOf (pullM n t).states = arcsOf t.states := by
      unfold arcsOf pullM
      simp only [List.map_map]
      rfl
    rw [e]; exact hv.arcs
  · obtain ⟨s0, h0, rfl⟩ := List.mem_map.1 hs
    rw [pull_len]
    refine ⟨?_, (hv.st s0 h0).2⟩
    unfold ValidFinal
    simp only [pullState]
    split
    · rename_i e; exact .inr e
    · rename_i e; exact .inl (hn s0 h0 e)
end Go.Proofs.Ytndajklppipckaa
