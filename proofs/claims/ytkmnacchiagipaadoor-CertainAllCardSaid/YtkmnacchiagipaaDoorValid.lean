/- Machines out of raw numbers are right. -/
import Derived.Test.YtkmnacchiagipaaDoorMade
import Derived.Test.YtkmnacchiagipaaDoorCheck
namespace Go.Proofs.YtkmnacchiagipaaDoor
open Go.RowKit

theorem pick_b (n m : Int) (hm : 1 ≤ m) : 0 ≤ pick n m ∧ pick n m < m := ⟨pick_lo n m hm, pick_hi n m hm⟩

theorem valid_mkArc (full : Bool) (n : Int) (hn : 1 ≤ n) (e : ArcL) : ValidArc n (mkArc full n e) := by
  have h1 := pick_b e.inn 3 (by omega); have h2 := pick_b e.out 3 (by omega); have h3 := pick_b e.wt 10 (by omega); have h4 := pick_b e.to n hn
  unfold mkArc
  refine ⟨?_, ?_, ?_, ?_, ?_, ?_, ?_, ?_⟩ <;> simp only <;> (try split) <;> omega

theorem mkMach_len (r : RawL) (k : Int) (full : Bool) (k1 : 1 ≤ k) : ((mkMach r k full).states.length : Int) = mkN r k := by
  unfold mkMach; rw [mkStates_len]; unfold mkN; omega

theorem mkArcs_len (full : Bool) (n : Int) (x : NodeL) : (mkArcs full n x).length ≤ 4 := by unfold mkArcs; simp; omega

theorem mkState_arcs_len (full : Bool) (n : Int) (x : Option NodeL) : (mkState full n x).arcs.length ≤ 4 := by
  cases x with
  | none => simp [mkState]
  | some x => exact mkArcs_len full n x

theorem sum_le4 (ss : List StateL) (h : ∀ s ∈ ss, s.arcs.length ≤ 4) : arcsOf ss ≤ 4 * ss.length := by
  unfold arcsOf
  induction ss with
  | nil => simp
  | cons s ss ih =>
    have h1 := h s (by simp)
    have h2 := ih (fun x hx => h x (by simp [hx]))
    simp only [List.map_cons, List.sum_cons, List.length_cons]
    omega

theorem valid_made (r : RawL) (k : Int) (full : Bool) (k1 : 1 ≤ k) (k2 : k ≤ 60) : Valid (mkMach r k full) := by
  have hl := mkMach_len r k full k1
  have n1 : 1 ≤ mkN r k := by unfold mkN; omega
  have n2 : mkN r k ≤ 60 := by unfold mkN; omega
  have hst : ∀ s ∈ (mkMach r k full).states, ∃ x, s = mkState full (mkN r k) x := by
    intro s hs
    unfold mkMach mkStates at hs
    obtain ⟨i, -, rfl⟩ := List.mem_map.1 hs
    exact ⟨_, rfl⟩
  have h4 : arcsOf (mkMach r k full).states ≤ 4 * (mkMach r k full).states.length := sum_le4 _ (fun s hs => by
    obtain ⟨x, rfl⟩ := hst s hs
    exact mkState_arcs_len _ _ _)
  have hs := pick_b r.start (mkN r k) n1
  refine ⟨by omega, by omega, ?_, ?_, ?_⟩
  · show -1 ≤ pick r.start (mkN r k); omega
  · rw [hl]; exact hs.2
  · intro s hs
    obtain ⟨x, rfl⟩ := hst s hs
    rw [hl]
    cases x with
    | none => exact ⟨.inl ⟨by simp [mkState], by simp [mkState]⟩, fun a ha => by simp [mkState] at ha⟩
    | some x =>
      refine ⟨?_, fun a ha => ?_⟩
      · unfold mkState mkFinal ValidFinal
        simp only
        have := pick_b x.final 10 (by omega)
        split <;> omega
      · simp only [mkState, mkArcs] at ha
        obtain ⟨e, -, rfl⟩ := List.mem_map.1 ha
        exact valid_mkArc full _ n1 e

theorem mk_arcs_small (r : RawL) (k : Int) (full : Bool) : ∀ s ∈ (mkMach r k full).states, s.arcs.length ≤ 4 := by
  intro s hs
  unfold mkMach mkStates at hs
  obtain ⟨i, -, rfl⟩ := List.mem_map.1 hs
  exact mkState_arcs_len _ _ _

theorem arcs_le_of (ss : List StateL) (s : StateL) (hs : s ∈ ss) : s.arcs.length ≤ arcsOf ss := by
  unfold arcsOf
  induction ss with
  | nil => simp at hs
  | cons x xs ih =>
    simp only [List.map_cons, List.sum_cons]
    rcases List.mem_cons.1 hs with rfl | hs
    · omega
    · have := ih hs; omega
theorem valid_arcs_le {m : MachL} (h : Valid m) : ∀ s ∈ m.states, s.arcs.length ≤ 1000000 := fun s hs => by
  have := h.arcs; have := arcs_le_of _ s hs; omega

theorem machAt_eq {w : World} {v : Value} {x y : MachL} (h : MachAt w v x) (e : x = y) : MachAt w v y := e ▸ h

end Go.Proofs.YtkmnacchiagipaaDoor
