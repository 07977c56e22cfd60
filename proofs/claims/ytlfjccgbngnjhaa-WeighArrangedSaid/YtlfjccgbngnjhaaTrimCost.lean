/- A trimmed machine: words cost the same (plain). -/
import Derived.Test.YtlfjccgbngnjhaaTrimLaw
import Derived.Test.YtlfjccgbngnjhaaAcc
import Derived.Test.YtlfjccgbngnjhaaCostMade
namespace Go.Proofs.Ytlfjccgbngnjhaa
open Go.RowKit

section
variable {m : MachL}
theorem trim_start_eq (h0 : 0 ≤ m.start) (hk : (keepOf m).getD m.start.toNat false = true) : (trimM m).start = (idx (keepOf m) m.start.toNat : Int) := by
  show (if 0 ≤ m.start then num (keepOf m) m.start.toNat else -1) = _
  rw [if_pos h0, num_kept hk]
end
section
variable {m : MachL} (hv : Valid m)
include hv
theorem accW_RB {q : Nat} {x y : List Int} {c : Int} (h : AccW m q x y c) : RB m q := by
  induction h with
  | @fin q s hs hf =>
    obtain ⟨hl, rfl⟩ := List.getElem?_eq_some_iff.1 hs
    exact Reach.start ((mem_endsOf _ _).2 ⟨hl, hf⟩)
  | @arc q s a x y c hs ha _ ih =>
    obtain ⟨hl, rfl⟩ := List.getElem?_eq_some_iff.1 hs
    exact RB_pre hv ih (ahead_mem.2 ⟨hl, a, ha, rfl⟩)
theorem accW_trim {q : Nat} {x y : List Int} {c : Int} (h : AccW m q x y c) : RA m q → AccW (trimM m) (idx (keepOf m) q) x y c := by
  have hK := keepOf_len m
  induction h with
  | @fin q s hs hf =>
    intro hr
    obtain ⟨hl, rfl⟩ := List.getElem?_eq_some_iff.1 hs
    have hk : (keepOf m).getD q false = true := (keep_iff hv).2 ⟨hr, Reach.start ((mem_endsOf _ _).2 ⟨hl, hf⟩)⟩
    have e : (trimM m).states[idx (keepOf m) q]? = some (trimState (keepOf m) m.states[q]) := trim_at hK hk hl
    exact AccW.fin (s := trimState (keepOf m) m.states[q]) e hf
  | @arc q s a x y c hs ha hacc ih =>
    intro hr
    obtain ⟨hl, rfl⟩ := List.getElem?_eq_some_iff.1 hs
    have hm : a.to.toNat ∈ aheadOf m.states q := ahead_mem.2 ⟨hl, a, ha, rfl⟩
    have hr2 := hr.step hm
    have hb2 := accW_RB hv hacc
    have hk : (keepOf m).getD q false = true := (keep_iff hv).2 ⟨hr, RB_pre hv hb2 hm⟩
    have hk2 : (keepOf m).getD a.to.toNat false = true := (keep_iff hv).2 ⟨hr2, hb2⟩
    have e : (trimM m).states[idx (keepOf m) q]? = some (trimState (keepOf m) m.states[q]) := trim_at hK hk hl
    have e5 : (numArc (keepOf m) a).to.toNat = idx (keepOf m) a.to.toNat := by
      show (num (keepOf m) a.to.toNat).toNat = _
      rw [num_kept hk2]; simp
    exact AccW.arc (a := numArc (keepOf m) a) e (arc_trim ha hk2) (by rw [e5]; exact ih hr2)
theorem trim_accW {i : Nat} {x y : List Int} {c : Int} (h : AccW (trimM m) i x y c) : ∀ q, (keepOf m).getD q false = true → q < m.states.length → idx (keepOf m) q = i → AccW m q x y c := by
  have hK := keepOf_len m
  induction h with
  | @fin i s hs hf =>
    intro q hk hq e0
    subst e0
    have e : (trimM m).states[idx (keepOf m) q]? = some (trimState (keepOf m) m.states[q]) := trim_at hK hk hq
    rw [e] at hs
    injection hs with hs
    subst hs
    exact AccW.fin (s := m.states[q]) (List.getElem?_eq_getElem hq) hf
  | @arc i s a x y c hs ha hacc ih =>
    intro q hk hq e0
    subst e0
    have e : (trimM m).states[idx (keepOf m) q]? = some (trimState (keepOf m) m.states[q]) := trim_at hK hk hq
    rw [e] at hs
    injection hs with hs
    subst hs
    obtain ⟨b, hb, hkb, rfl⟩ := trim_arc ha
    have e5 : (numArc (keepOf m) b).to.toNat = idx (keepOf m) b.to.toNat := by
      show (num (keepOf m) b.to.toNat).toNat = _
      rw [num_kept hkb]; simp
    exact AccW.arc (a := b) (List.getElem?_eq_getElem hq) hb (ih b.to.toNat hkb (to_lt hv _ (List.getElem_mem hq) b hb) e5.symm)
/-- trimmed, words cost the same -/
theorem trim_tot (h0 : 0 ≤ m.start) (x y : List Int) (c : Int) : Tot (trimM m) x y false c ↔ Tot m x y false c := by
  have hsn : m.start.toNat < m.states.length := by have := hv.s1; omega
  have hra : RA m m.start.toNat := Reach.start (by simp [startOf, h0])
  rw [tot_accW, tot_accW]
  constructor
  · rintro ⟨h1, h2⟩
    have hk : (keepOf m).getD m.start.toNat false = true := by
      apply Classical.byContradiction
      intro hk
      have : (trimM m).start < 0 := by
        show (if 0 ≤ m.start then num (keepOf m) m.start.toNat else -1) < 0
        rw [if_pos h0, num_lost hk]; omega
      omega
    have e := trim_start_eq h0 hk
    exact ⟨h0, trim_accW hv h2 m.start.toNat hk hsn (by omega)⟩
  · rintro ⟨_, h2⟩
    have hk : (keepOf m).getD m.start.toNat false = true := (keep_iff hv).2 ⟨hra, accW_RB hv h2⟩
    have e := trim_start_eq h0 hk
    refine ⟨by omega, ?_⟩
    have := accW_trim hv h2 hra
    rwa [show idx (keepOf m) m.start.toNat = (trimM m).start.toNat by omega] at this
end
theorem trim_mem {m : MachL} {s : StateL} (h : s ∈ (trimM m).states) : ∃ s0 ∈ m.states, s = trimState (keepOf m) s0 := by
  have hK := keepOf_len m
  obtain ⟨i, hi, rfl⟩ := List.getElem_of_mem h
  obtain ⟨q, hq, hk, rfl⟩ := trim_from hK i _ (Nat.le_refl _) hi
  obtain ⟨hl, e⟩ := List.getElem?_eq_some_iff.1 (trim_at hK hk hq)
  exact ⟨_, List.getElem_mem hq, e⟩
theorem trim_little {m : MachL} {n AA : Nat} (h : Little m n AA) : Little (trimM m) n AA := by
  refine ⟨Nat.le_trans (trim_len_le (keepOf_len m)) h.len, fun s hs a ha => ?_, fun s hs hf => ?_, fun s hs => ?_⟩
  · obtain ⟨s0, h0, rfl⟩ := trim_mem hs
    obtain ⟨b, hb, -, rfl⟩ := trim_arc ha
    exact h.wt s0 h0 b hb
  · obtain ⟨s0, h0, rfl⟩ := trim_mem hs
    exact h.fin s0 h0 hf
  · obtain ⟨s0, h0, rfl⟩ := trim_mem hs
    exact Nat.le_trans (trimArcs_len _ _) (h.arcs s0 h0)
end Go.Proofs.Ytlfjccgbngnjhaa
