/- The walk of ComposeBetween. -/
import Derived.Test.YtikkmoleneioeaaCompose
import Derived.Test.YtikkmoleneioeaaCompLaw
namespace Go.Proofs.Ytikkmoleneioeaa
open Go.RowKit

/-- what a law's walk needs of Compose -/
def CompOut (a b : MachL) (w' : World) (e : Ending) (W : Int) : Prop :=
  (e = .returned (.tuple #[.agg #[.int .i64 0, .slice none 0 0], .int .i64 5]) ∧ FullWhy a b) ∨ ∃ A k c, e = .returned (.tuple #[.agg #[.int .i64 0, .slice A c.states.length k], .int .i64 0]) ∧ StatesAt w' A c.states ∧ c.start = 0 ∧ Valid c ∧ Wt c W ∧ 0 < c.states.length ∧ ∀ x z d, Tot c x z false d ↔ Comp a b x z d
theorem compose_out (va vb : Value) (a b : MachL) (W1 W2 : Int) (w : World) (ha : MachAt w va a) (hb : MachAt w vb b) (hva : Valid a) (hvb : Valid b) (ha0 : 0 ≤ a.start) (hb0 : 0 ≤ b.start) (h1 : Wt a W1) (h2 : Wt b W2) (hle : W1 + W2 ≤ 1000000000) :
    Calls Try.prog 19 #[va, vb] w fun e w' => CompOut a b w' e (W1 + W2) ∧ Below w.heap.size w w' :=
  (Compose_any va vb a b W1 W2 w ha hb hva hvb ha0 hb0 (h1.ok h2 hle)).mono (by
    rintro e w' ⟨h, hbl⟩
    refine ⟨?_, hbl⟩
    rcases h with h | ⟨mv, c, T, rfl, ho, hc, hs, hA⟩
    · exact .inl h
    · right
      obtain ⟨A, k, rfl, s1⟩ := own_open ho
      obtain ⟨v1, v2⟩ := comp_valid hva hvb (h1.ok h2 hle) hc hs hA
      exact ⟨A, k, c, by rw [hc.start], s1, hc.start, v1, v2, comp_pos hc, fun x z d => compose_tot hc (h1.endOk h2 hle) ha0 hb0 x z d⟩)
theorem made_size4 (r : RawL) (k : Int) (k1 : 1 ≤ k) : (mkMach r k false).states.length ≤ k.toNat := by
  have h1 := mkMach_len r k false k1
  have h2 : mkN r k ≤ k ∧ 1 ≤ mkN r k := by unfold mkN; omega
  omega

end Go.Proofs.Ytikkmoleneioeaa
