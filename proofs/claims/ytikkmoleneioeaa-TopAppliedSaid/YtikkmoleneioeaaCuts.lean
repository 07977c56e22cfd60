/- Words cut; both. -/
import Derived.Test.YtikkmoleneioeaaCostMade
import Derived.Test.YtikkmoleneioeaaCutWords
import Derived.Deep.RegionHeld3
import Derived.Deep.DeepCutAuto
import Derived.LoopTactic
import Derived.IntWalk
namespace Go.Proofs.Ytikkmoleneioeaa
open Go.RowKit

def bothV (c d : Int) : Int := if c = 1000000001 ∨ d = 1000000001 then 1000000001 else c + d
def BestB (T : Int → Prop) (r : Int) : Prop := (r = INF ∧ ∀ c, ¬ T c) ∨ (T r ∧ (∀ c, T c → r ≤ c) ∧ r ≤ 1000000000)
theorem Best.toB {T : Int → Prop} {r : Int} (h : Best T r) : BestB T r := h.imp id (fun ⟨h1, h2, h3⟩ => ⟨h1, h2, by omega⟩)
theorem BestB.eq {T : Int → Prop} {r r' : Int} (h : BestB T r) (h' : BestB T r') : r = r' := by
  rcases h with ⟨h1, h2⟩ | ⟨h1, h2, -⟩
  · rcases h' with ⟨k1, k2⟩ | ⟨k1, k2, -⟩
    · exact h1.trans k1.symm
    · exact absurd k1 (h2 _)
  · rcases h' with ⟨k1, k2⟩ | ⟨k1, k2, -⟩
    · exact absurd h1 (k2 _)
    · have := h2 _ k1; have := k2 _ h1; omega
theorem BestB.congr {T T' : Int → Prop} {r : Int} (h : BestB T r) (e : ∀ c, T c ↔ T' c) : BestB T' r := by
  rcases h with ⟨h1, h2⟩ | ⟨h1, h2, h3⟩
  · exact .inl ⟨h1, fun c hc => h2 c ((e c).2 hc)⟩
  · exact .inr ⟨(e _).1 h1, fun c hc => h2 c ((e c).2 hc), h3⟩
theorem BestB.le {T : Int → Prop} {r : Int} (h : BestB T r) : r ≤ 1000000001 := by
  rcases h with ⟨h1, _⟩ | ⟨_, _, h3⟩
  · rw [h1]; decide
  · omega
theorem Best.both {T1 T2 : Int → Prop} {c d : Int} (h1 : Best T1 c) (h2 : Best T2 d) : BestB (fun e => ∃ c1 c2, T1 c1 ∧ T2 c2 ∧ e = c1 + c2) (bothV c d) := by
  have hi : INF = 1000000001 := rfl
  unfold bothV
  rcases h1 with ⟨a1, a2⟩ | ⟨a1, a2, a3⟩
  · rw [if_pos (.inl (by omega))]
    exact .inl ⟨rfl, fun e ⟨c1, _, hc, _⟩ => a2 c1 hc⟩
  · rcases h2 with ⟨b1, b2⟩ | ⟨b1, b2, b3⟩
    · rw [if_pos (.inr (by omega))]
      exact .inl ⟨rfl, fun e ⟨_, c2, _, hc, _⟩ => b2 c2 hc⟩
    · rw [if_neg (by omega)]
      exact .inr ⟨⟨c, d, a1, b1, rfl⟩, fun e ⟨c1, c2, k1, k2, k3⟩ => by have := a2 c1 k1; have := b2 c2 k2; omega, by omega⟩
theorem BestB.or {T1 T2 : Int → Prop} {r1 r2 : Int} (h1 : BestB T1 r1) (h2 : BestB T2 r2) : BestB (fun c => T1 c ∨ T2 c) (min r1 r2) := by
  have hi : INF = 1000000001 := rfl
  rcases h1 with ⟨a1, a2⟩ | ⟨a1, a2, a3⟩
  · rcases h2 with ⟨b1, b2⟩ | ⟨b1, b2, b3⟩
    · left
      exact ⟨by omega, fun c hc => by rcases hc with h | h; exact a2 c h; exact b2 c h⟩
    · right
      have : min r1 r2 = r2 := by omega
      rw [this]
      exact ⟨.inr b1, fun c hc => by rcases hc with h | h; exact absurd h (a2 c); exact b2 c h, b3⟩
  · rcases h2 with ⟨b1, b2⟩ | ⟨b1, b2, b3⟩
    · right
      have : min r1 r2 = r1 := by omega
      rw [this]
      exact ⟨.inl a1, fun c hc => by rcases hc with h | h; exact a2 c h; exact absurd h (b2 c), a3⟩
    · right
      rcases Int.le_total r1 r2 with hh | hh
      · have : min r1 r2 = r1 := by omega
        rw [this]
        exact ⟨.inl a1, fun c hc => by rcases hc with h | h; exact a2 c h; have := b2 c h; omega, a3⟩
      · have : min r1 r2 = r2 := by omega
        rw [this]
        exact ⟨.inr b1, fun c hc => by rcases hc with h | h; have := a2 c h; omega; exact b2 c h, b3⟩
end Go.Proofs.Ytikkmoleneioeaa
