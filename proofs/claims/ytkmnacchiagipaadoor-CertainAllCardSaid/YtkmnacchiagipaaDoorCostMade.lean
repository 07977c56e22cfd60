/- Machines of raw numbers are small enough to be weighed. -/
import Derived.Test.YtkmnacchiagipaaDoorCost
import Derived.Test.YtkmnacchiagipaaDoorValid
import Derived.Test.YtkmnacchiagipaaDoorTurn
namespace Go.Proofs.YtkmnacchiagipaaDoor
open Go.RowKit

theorem costOk_of {m : MachL} {lx ly : Nat} (n X Y : Nat) (WW F : Int) (AA : Nat) (hn : m.states.length ≤ n) (hx : lx ≤ X) (hy : ly ≤ Y) (h0 : 0 ≤ WW) (h1 : WW ≤ 1000000000) (hW : ∀ s ∈ m.states, ∀ a ∈ s.arcs, a.wt ≤ WW) (hF : ∀ s ∈ m.states, s.final ≠ INF → s.final ≤ F)
    (hA : ∀ s ∈ m.states, s.arcs.length ≤ AA) (hN : n * (X + 1) * (Y + 1) * (AA + 1) + 1 ≤ 1000000) (hB : ((n * (X + 1) * (Y + 1) : Nat) : Int) * WW + F ≤ 500000000) : CostOk m lx ly :=
  ⟨WW, F, AA, n * (X + 1) * (Y + 1), h0, h1, hW, hF, hA, Nat.mul_le_mul (Nat.mul_le_mul hn (by omega)) (by omega), hN, hB⟩
/-- weights and finals of a machine are small, and its states' arcs are few -/
structure Little (m : MachL) (n AA : Nat) : Prop where
  len : m.states.length ≤ n
  wt : ∀ s ∈ m.states, ∀ a ∈ s.arcs, a.wt ≤ 9
  fin : ∀ s ∈ m.states, s.final ≠ INF → s.final ≤ 9
  arcs : ∀ s ∈ m.states, s.arcs.length ≤ AA
theorem Little.ok {m : MachL} {n AA : Nat} (h : Little m n AA) {lx ly : Nat} (X Y : Nat) (hx : lx ≤ X) (hy : ly ≤ Y) (hN : n * (X + 1) * (Y + 1) * (AA + 1) + 1 ≤ 1000000) : CostOk m lx ly := by
  refine costOk_of n X Y 9 9 AA h.len hx hy (by omega) (by omega) h.wt h.fin h.arcs hN ?_
  have : n * (X + 1) * (Y + 1) ≤ n * (X + 1) * (Y + 1) * (AA + 1) := Nat.le_mul_of_pos_right _ (by omega)
  omega
theorem made_little (r : RawL) (k : Nat) (full : Bool) (hk : 1 ≤ k) : Little (mkMach r k full) k 4 := by
  have h1 := mkMach_len r k full (by omega)
  have h2 : mkN r k ≤ k := by unfold mkN; omega
  have key : ∀ s ∈ (mkMach r k full).states, ∃ q, s = mkState full (mkN r k) r.nodes[q]? := fun s hs => by
    unfold mkMach mkStates at hs
    obtain ⟨q, -, rfl⟩ := List.mem_map.1 hs
    exact ⟨q, rfl⟩
  refine ⟨by omega, fun s hs a ha => ?_, fun s hs hne => ?_, mk_arcs_small r k full⟩
  · obtain ⟨q, rfl⟩ := key s hs
    unfold mkState at ha
    split at ha
    · cases ha
    · unfold mkArcs at ha
      obtain ⟨e, -, rfl⟩ := List.mem_map.1 ha
      have := pick_hi e.wt 10 (by omega)
      unfold mkArc; simp only; omega
  · obtain ⟨q, rfl⟩ := key s hs
    unfold mkState at hne ⊢
    split
    · simp
    · rename_i x hx
      rw [hx] at hne
      simp only [mkFinal] at hne ⊢
      split
      · have := pick_hi x.final 10 (by omega); omega
      · rename_i h; rw [if_neg h] at hne; exact absurd rfl hne
theorem each_little {F : ArcL → ArcL} (hF : ∀ a, (F a).wt = a.wt) {m : MachL} {n AA : Nat} (h : Little m n AA) : Little (eachM F m) n AA := by
  refine ⟨by simpa [eachM] using h.len, fun s hs a ha => ?_, fun s hs => ?_, fun s hs => ?_⟩ <;> obtain ⟨s0, h0, rfl⟩ := List.mem_map.1 hs
  · obtain ⟨a0, ha0, rfl⟩ := List.mem_map.1 ha
    rw [hF]; exact h.wt s0 h0 a0 ha0
  · exact h.fin s0 h0
  · simpa using h.arcs s0 h0
theorem word_b (xs : List Int) (most : Nat) : ∀ x ∈ mkWord xs most, 1 ≤ x ∧ x ≤ 1000 := fun x hx => by have := mkWord_b xs most x hx; omega

theorem arcsP_each (F : ArcL → ArcL) (m : MachL) (p : Pl) : arcsP (eachM F m) p = (arcsP m p).map F := by
  unfold arcsP eachM
  simp only [List.getElem?_map]
  cases m.states[p.1]? <;> simp
theorem finalP_each (F : ArcL → ArcL) (m : MachL) (p : Pl) : finalP (eachM F m) p = finalP m p := by
  unfold finalP eachM
  simp only [List.getElem?_map]
  cases m.states[p.1]? <;> simp
/-- a word that was returned -/
theorem word_open {w : World} {B : Nat} {v : Value} {l : List Int} (h : w.ownsRow B 3 1 v l.length (icells l)) : ∃ A c, v = .slice A l.length c ∧ Rd w A l.length 1 (icells l) := by
  obtain ⟨A, c, rfl, -⟩ := own_form h
  exact ⟨A, c, rfl, Rd.of_own h⟩
end Go.Proofs.YtkmnacchiagipaaDoor
