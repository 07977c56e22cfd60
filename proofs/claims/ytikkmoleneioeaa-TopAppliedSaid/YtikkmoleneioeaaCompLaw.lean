/- What holds of a composed machine (plain). -/
import Derived.Test.YtikkmoleneioeaaComposeLoop
import Derived.Test.YtikkmoleneioeaaCostMade
import Derived.Test.YtikkmoleneioeaaCuts
namespace Go.Proofs.Ytikkmoleneioeaa

/-- weights and finals are at most W -/
structure Wt (m : MachL) (W : Int) : Prop where
  w : ∀ s ∈ m.states, ∀ e ∈ s.arcs, e.wt ≤ W
  f : ∀ s ∈ m.states, s.final ≠ INF → s.final ≤ W
  p : 0 ≤ W
theorem Wt.ok {a b : MachL} {W1 W2 : Int} (ha : Wt a W1) (hb : Wt b W2) (hle : W1 + W2 ≤ 1000000000) : WtOk a b W1 W2 := by
  have key : ∀ {m : MachL} {W : Int}, Wt m W → (∀ q, ∀ e ∈ arcsQ m q, e.wt ≤ W) ∧ (∀ q, finQ m q ≠ INF → finQ m q ≤ W) := fun {m W} h => by
    refine ⟨fun q e he => ?_, fun q hq => ?_⟩
    · obtain ⟨s, h1, h2⟩ := arcsQ_mem he
      exact h.w s (List.mem_of_getElem? h1) e h2
    · obtain ⟨s, h1, h2⟩ := finQ_ne hq
      rw [← h2] at hq ⊢
      exact h.f s (List.mem_of_getElem? h1) hq
  exact ⟨(key ha).1, (key hb).1, (key ha).2, (key hb).2, ha.p, hb.p, hle⟩
theorem Wt.endOk {a b : MachL} {W1 W2 : Int} (ha : Wt a W1) (hb : Wt b W2) (hle : W1 + W2 ≤ 1000000000) : EndOk a b := fun p q hp hq => by
  have h := ha.ok hb hle
  have h1 := h.f1 p hp; have h2 := h.f2 q hq
  have : INF = 1000000001 := rfl
  omega
theorem Little.wt9 {m : MachL} {n AA : Nat} (h : Little m n AA) : Wt m 9 := ⟨h.wt, h.fin, by omega⟩
section
variable {a b c : MachL} {T : List TriL}
theorem comp_pos (h : ComposeOk a b c T) : 0 < c.states.length := by
  rw [← h.len]
  exact (List.getElem?_eq_some_iff.1 h.first).1
theorem comp_valid (hva : Valid a) (hvb : Valid b) {W1 W2 : Int} (hW : WtOk a b W1 W2) (h : ComposeOk a b c T) (h1 : c.states.length ≤ 60) (h2 : arcsOf c.states ≤ 400) : Valid c ∧ Wt c (W1 + W2) := by
  have key : ∀ s ∈ c.states, ∃ t, s.final = finT a b t ∧ (∀ e ∈ s.arcs, ∃ x ∈ hopsX a b t, ArcOf T x e) := fun s hs => by
    obtain ⟨i, hi, rfl⟩ := List.getElem_of_mem hs
    have hi2 : i < T.length := by rw [h.len]; exact hi
    have hg := List.getElem?_eq_getElem hi
    have hg2 := List.getElem?_eq_getElem hi2
    obtain ⟨g1, g2⟩ := h.arcs i _ _ hg2 hg
    refine ⟨T[i], h.fin i _ _ hg2 hg, fun e he => ?_⟩
    obtain ⟨k, hk, rfl⟩ := List.getElem_of_mem he
    have hk2 : k < (hopsX a b T[i]).length := by omega
    exact ⟨_, List.getElem_mem hk2, g2 k _ _ (List.getElem?_eq_getElem hk2) (List.getElem?_eq_getElem hk)⟩
  have hi : INF = 1000000001 := rfl
  have hp := hW.p1; have hq := hW.p2; have hle := hW.le
  have hf : ∀ t, finT a b t = INF ∨ (0 ≤ finT a b t ∧ finT a b t ≤ W1 + W2) := fun t => by
    by_cases hc : finT a b t = INF
    · exact .inl hc
    · right
      obtain ⟨n1, n2, e⟩ := timesI_ne hc
      have e' : finT a b t = finQ a t.a + finQ b t.b := e
      have k1 := hW.f1 _ n1; have k2 := hW.f2 _ n2
      obtain ⟨s1, m1, m2⟩ := finQ_ne n1
      obtain ⟨s2, m3, m4⟩ := finQ_ne n2
      have v1 := (hva.st s1 (List.mem_of_getElem? m1)).1; have v2 := (hvb.st s2 (List.mem_of_getElem? m3)).1
      rw [m2] at v1
      rw [m4] at v2
      unfold ValidFinal at v1 v2
      rw [e']
      omega
  refine ⟨⟨h1, h2, by rw [h.start]; omega, by rw [h.start]; have := comp_pos h; omega, fun s hs => ?_⟩, ⟨fun s hs e he => ?_, fun s hs hne => ?_, by omega⟩⟩
  · obtain ⟨t, k1, k2⟩ := key s hs
    refine ⟨?_, fun e he => ?_⟩
    · rw [k1]
      unfold ValidFinal
      rcases hf t with g | g
      · right; omega
      · left; omega
    · obtain ⟨x, hx, g1, g2, g3, g4, g5⟩ := k2 e he
      have hv := hop_valid hva hvb hW hx
      have hl := (List.getElem?_eq_some_iff.1 g5).1
      rw [h.len] at hl
      exact ⟨by omega, by omega, by omega, by omega, by omega, by omega, g4, by omega⟩
  · obtain ⟨t, -, k2⟩ := key s hs
    obtain ⟨x, hx, g1, g2, g3, g4, g5⟩ := k2 e he
    have hv := hop_valid hva hvb hW hx
    omega
  · obtain ⟨t, k1, -⟩ := key s hs
    rw [k1] at hne ⊢
    rcases hf t with g | g
    · exact absurd g hne
    · exact g.2
theorem wt_costOk {m : MachL} (hv : Valid m) {W : Int} (hW : Wt m W) (hle : W ≤ 300000) {lx ly : Nat} (hx : lx ≤ 4) (hy : ly ≤ 4) : CostOk m lx ly := by
  refine costOk_of 60 4 4 W W 400 hv.size hx hy hW.p (by omega) hW.w hW.f (fun s hs => ?_) (by omega) ?_
  · have := arcs_le_of m.states s hs
    have := hv.arcs
    omega
  · have h0 := hW.p
    have e : ((60 * (4 + 1) * (4 + 1) : Nat) : Int) = 1500 := by decide
    rw [e]; omega
/-- what the words between cost -/
def Comp (a b : MachL) (x z : List Int) (d : Int) : Prop := ∃ y d1 d2, Tot a x y false d1 ∧ Tot b y z false d2 ∧ d = d1 + d2
theorem comp_between {x y z : List Int} {n k v : Int} (hT : ∀ d, Tot c x z false d ↔ Comp a b x z d) (hn : Best (Tot a x y false) n) (hk : Best (Tot b y z false) k) (hv : Best (Tot c x z false) v) : v ≤ bothV n k := by
  have hi : INF = 1000000001 := rfl
  have hvl : v ≤ 1000000001 := by rcases hv with h | h <;> omega
  unfold bothV
  split
  · exact hvl
  · rename_i hne
    have h1 : Tot a x y false n := by
      rcases hn with h | h
      · exact absurd (.inl h.1) hne
      · exact h.1
    have h2 : Tot b y z false k := by
      rcases hk with h | h
      · exact absurd (.inr h.1) hne
      · exact h.1
    have h3 := (hT _).2 ⟨y, n, k, h1, h2, rfl⟩
    rcases hv with h | h
    · exact absurd h3 (h.2 _)
    · exact h.2.1 _ h3
end
end Go.Proofs.Ytikkmoleneioeaa
