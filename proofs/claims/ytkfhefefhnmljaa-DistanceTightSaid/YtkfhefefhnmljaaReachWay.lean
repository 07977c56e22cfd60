/- What can be reached has a way. -/
import Derived.Test.YtkfhefefhnmljaaDistLaw
import Derived.Test.YtkfhefefhnmljaaAhead2
namespace Go.Proofs.Ytkfhefefhnmljaa

theorem reach_way {m : MachL} (hv : Valid m) (q : Nat) : Reach (aheadOf m.states) (startOf m) q ↔ ∃ c, Way (fromFirst m) (fromE m) q c := by
  constructor
  · intro h
    induction h with
    | start hq =>
      unfold startOf at hq
      split at hq
      · rename_i h0; simp at hq; subst hq; exact ⟨0, from_start hv h0⟩
      · simp at hq
    | @step q p h hp ih =>
      obtain ⟨c, hc⟩ := ih
      have hq := hc.lt (From_ok hv)
      rw [aheadOf_eq _ _ hq] at hp
      obtain ⟨a, ha, rfl⟩ := List.mem_map.1 hp
      exact ⟨_, from_step hv hc ha⟩
  · rintro ⟨c, h⟩
    induction h with
    | @start q hq hw =>
      obtain ⟨h0, e, -⟩ := from_first hq hw
      refine .start ?_; unfold startOf; rw [if_pos h0, e]; simp
    | @step p q c' w h he ih =>
      obtain ⟨p', hp, a, ha, e⟩ := (From_mem hv p _).1 he
      unfold fF at e
      injection e with e1 e2
      injection e2 with e2 e3
      subst e1; subst e2
      exact .step ih (by rw [aheadOf_eq _ _ hp]; exact List.mem_map.2 ⟨a, ha, rfl⟩)
end Go.Proofs.Ytkfhefefhnmljaa
