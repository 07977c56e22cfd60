/- best.Costs' loop, plain: over a machine, and with its heap. -/
import Derived.Test.YtndajklppipckaaWayPlain
import Derived.Test.YtndajklppipckaaCostsRun
import Derived.Test.YtndajklppipckaaDistLaw
import Derived.Test.YtndajklppipckaaWays
namespace Go.Proofs.Ytndajklppipckaa

def ioW (b : Begs) (p : List Nat) : WayL := ⟨(b.q p : Nat), b.c p, b.c p + b.d (b.q p)⟩
def ieW (b : Begs) (p : List Nat) : WayL := ⟨-1, b.cost p, b.cost p⟩
theorem perm_map_pick {O : List (List Nat)} {p : List Nat} (h : p ∈ O) : ∃ O', O.Perm (p :: O') := ⟨O.erase p, List.perm_cons_erase h⟩
theorem popped {b : Begs} {O EN : List (List Nat)} {it : WayL} {l l' : List WayL} (hl : l.Perm (O.map (ioW b) ++ EN.map (ieW b))) (hp : (it :: l').Perm l) :
    (∃ p O', O.Perm (p :: O') ∧ it = ioW b p ∧ l'.Perm (O'.map (ioW b) ++ EN.map (ieW b))) ∨ (∃ p EN', EN.Perm (p :: EN') ∧ it = ieW b p ∧ l'.Perm (O.map (ioW b) ++ EN'.map (ieW b))) := by
  have h := hp.trans hl
  have h1 : it ∈ O.map (ioW b) ++ EN.map (ieW b) := h.mem_iff.1 (by simp)
  rcases List.mem_append.1 h1 with h2 | h2
  · obtain ⟨p, hp1, rfl⟩ := List.mem_map.1 h2
    obtain ⟨O', hO⟩ := perm_map_pick hp1
    refine .inl ⟨p, O', hO, rfl, ?_⟩
    have h3 := h.trans ((hO.map (ioW b)).append_right _)
    exact h3.cons_inv
  · obtain ⟨p, hp1, rfl⟩ := List.mem_map.1 h2
    obtain ⟨EN', hE⟩ := perm_map_pick hp1
    refine .inr ⟨p, EN', hE, rfl, ?_⟩
    have h3 := (h.trans ((hE.map (ieW b)).append_left _)).trans (List.perm_middle (a := ieW b p))
    exact h3.cons_inv
theorem least_all {b : Begs} {O EN : List (List Nat)} {x : Int} {l : List WayL} (hl : l.Perm (O.map (ioW b) ++ EN.map (ieW b))) (h : ∀ y ∈ l, x ≤ y.least) :
    (∀ p ∈ O, x ≤ b.c p + b.d (b.q p)) ∧ (∀ p ∈ EN, x ≤ b.cost p) :=
  ⟨fun p hp => h (ioW b p) (hl.mem_iff.2 (List.mem_append.2 (.inl (List.mem_map.2 ⟨p, hp, rfl⟩)))), fun p hp => h (ieW b p) (hl.mem_iff.2 (List.mem_append.2 (.inr (List.mem_map.2 ⟨p, hp, rfl⟩))))⟩
theorem perm_io {b : Begs} {O EN : List (List Nat)} {l l' : List WayL} (hl : l.Perm (O.map (ioW b) ++ EN.map (ieW b))) {p : List Nat} (hp : l'.Perm (l ++ [ioW b p])) : l'.Perm ((p :: O).map (ioW b) ++ EN.map (ieW b)) :=
  (hp.trans (List.perm_append_comm.trans (by simpa using hl.cons (ioW b p))))
theorem perm_ie {b : Begs} {O EN : List (List Nat)} {l l' : List WayL} (hl : l.Perm (O.map (ioW b) ++ EN.map (ieW b))) {p : List Nat} (hp : l'.Perm (l ++ [ieW b p])) : l'.Perm (O.map (ioW b) ++ (p :: EN).map (ieW b)) := by
  refine hp.trans (List.perm_append_comm.trans ?_)
  have h1 : ([ieW b p] ++ l).Perm (ieW b p :: (O.map (ioW b) ++ EN.map (ieW b))) := by simpa using hl.cons (ieW b p)
  exact h1.trans List.perm_middle.symm
theorem popped_min {it : WayL} {l' l : List WayL} (hp : (it :: l').Perm l) (hm : ∀ y ∈ l', it.least ≤ y.least) : ∀ y ∈ l, it.least ≤ y.least := fun y hy => by
  rcases List.mem_cons.1 (hp.mem_iff.2 hy) with rfl | h
  · exact Int.le_refl _
  · exact hm y h

section
variable {m : MachL} {s : Nat} {d : Nat → Int}
theorem arcsAt_lt {q : Nat} {a : ArcL} (h : a ∈ arcsAt m q) : ∃ hq : q < m.states.length, a ∈ m.states[q].arcs := by
  unfold arcsAt at h
  cases hs : m.states[q]? with
  | none => rw [hs] at h; simp at h
  | some z =>
    rw [hs] at h
    obtain ⟨hq, rfl⟩ := List.getElem?_eq_some_iff.1 hs
    exact ⟨hq, by simpa using h⟩
theorem arcsAt_of {q : Nat} (hq : q < m.states.length) : arcsAt m q = m.states[q].arcs := by unfold arcsAt; rw [List.getElem?_eq_getElem hq]; rfl
theorem finI_of {q : Nat} (hq : q < m.states.length) : finI m q = m.states[q].final := by unfold finI; rw [List.getElem?_eq_getElem hq]; rfl
theorem finI_lt {q : Nat} (h : finI m q ≠ 1000000001) : q < m.states.length := by
  apply Classical.byContradiction
  intro hq
  apply h
  unfold finI
  rw [List.getElem?_eq_none (by omega)]; rfl
theorem dfar_of (hv : Valid m) {dl : List Int} (hd : ∀ q, q < m.states.length → IsDist (endsFirst m) (endsE m) q (dl.getD q 0)) : DFar m (fun q => dl.getD q 0) := by
  constructor
  · intro q hf
    have hq := finI_lt hf
    rw [finI_of hq] at hf ⊢
    have hw := ends_start hq hf
    rcases hd q hq with ⟨h1, h2⟩ | ⟨h1, h2, h3, h4⟩
    · exact absurd hw (h2 _)
    · exact ⟨by omega, h4 _ hw⟩
  · intro q a ha hne
    obtain ⟨hq, ha⟩ := arcsAt_lt ha
    have hva := (hv.st _ (List.getElem_mem hq)).2 a ha
    have ht : a.to.toNat < m.states.length := by have := hva.t0; have := hva.t1; omega
    rcases hd _ ht with ⟨h1, h2⟩ | ⟨h1, h2, h3, h4⟩
    · exact absurd h1 hne
    · have hw := ends_step hv ha h3
      rcases hd q hq with ⟨g1, g2⟩ | ⟨g1, g2, g3, g4⟩
      · exact absurd hw (g2 _)
      · refine ⟨by omega, ?_⟩
        have := g4 _ hw
        omega
theorem pq_lt (hv : Valid m) (hs : s < m.states.length) : ∀ (p : List Nat) (x : Nat × Int), pw m s p = some x → x.1 < m.states.length := by
  intro p
  induction p with
  | nil => intro x h; cases h; exact hs
  | cons i p ih =>
    intro x h
    cases hp : pw m s p with
    | none => rw [pw_cons_none hp] at h; cases h
    | some y =>
      rw [pw_cons (q := y.1) (c := y.2) hp] at h
      cases ha : (arcsAt m y.1)[i]? with
      | none => rw [ha] at h; cases h
      | some a =>
        rw [ha] at h
        cases h
        obtain ⟨hq, h2⟩ := arcsAt_lt (List.mem_of_getElem? ha)
        have hva := (hv.st _ (List.getElem_mem hq)).2 a h2
        have := hva.t0; have := hva.t1
        simp only
        omega
theorem begs_lt (hv : Valid m) (hs : s < m.states.length) (h : DFar m d) : ∀ p, (begs m s d h).V p → (begs m s d h).q p < m.states.length := by
  intro p ⟨h1, h2⟩
  obtain ⟨x, hx⟩ := Option.isSome_iff_exists.1 h1
  have := pq_lt hv hs p x hx
  show pq m s p < _
  rw [(pq_of hx).1]; exact this
/-- one arc further from p -/
theorem begs_arc (h : DFar m d) {p : List Nat} (hV : (begs m s d h).V p) {k : Nat} {a : ArcL} (ha : (arcsAt m ((begs m s d h).q p))[k]? = some a) :
    (begs m s d h).q (k :: p) = a.to.toNat ∧ (begs m s d h).c (k :: p) = (begs m s d h).c p + a.wt ∧ ((begs m s d h).V (k :: p) ↔ d a.to.toNat ≠ 1000000001) := by
  obtain ⟨x, hx⟩ := Option.isSome_iff_exists.1 hV.1
  have e1 : (begs m s d h).q p = x.1 := (pq_of hx).1
  have e2 : (begs m s d h).c p = x.2 := (pq_of hx).2
  rw [e1] at ha
  have hk := pw_cons (q := x.1) (c := x.2) hx k
  rw [ha] at hk
  have f1 : pq m s (k :: p) = a.to.toNat := (pq_of hk).1
  have f2 : pc m s (k :: p) = x.2 + a.wt := (pq_of hk).2
  refine ⟨f1, by rw [e2]; exact f2, ?_⟩
  show ((pw m s (k :: p)).isSome = true ∧ d (pq m s (k :: p)) ≠ 1000000001) ↔ _
  rw [f1, hk]
  simp
theorem begs_none (h : DFar m d) {p : List Nat} (hV : (begs m s d h).V p) {k : Nat} (ha : (arcsAt m ((begs m s d h).q p))[k]? = none) : ¬ (begs m s d h).V (k :: p) := by
  obtain ⟨x, hx⟩ := Option.isSome_iff_exists.1 hV.1
  have e1 : (begs m s d h).q p = x.1 := (pq_of hx).1
  rw [e1] at ha
  have hk := pw_cons (q := x.1) (c := x.2) hx k
  rw [ha] at hk
  intro hh
  have := hh.1
  rw [hk] at this
  cases this
theorem begs_nil (h : DFar m d) : (begs m s d h).q [] = s ∧ (begs m s d h).c [] = 0 ∧ ((begs m s d h).V [] ↔ d s ≠ 1000000001) := by
  refine ⟨rfl, rfl, ?_⟩
  show ((pw m s []).isSome = true ∧ d (pq m s []) ≠ 1000000001) ↔ _
  simp [pw, pq]
theorem begs_whole (h : DFar m d) (p : List Nat) : ((begs m s d h).V p ∧ (begs m s d h).E ((begs m s d h).q p)) ↔ Whole m s p := by
  constructor
  · intro ⟨h1, h2⟩
    exact ⟨h1.1, h2⟩
  · intro ⟨h1, h2⟩
    exact ⟨⟨h1, (h.fin _ h2).1⟩, h2⟩
theorem begs_cost (h : DFar m d) (p : List Nat) : (begs m s d h).cost p = wcost m s p := rfl
theorem Cheap.congr {α : Type} {W W' : α → Prop} {c : α → Int} {n : Nat} {ps : List α} (h : Cheap W c n ps) (he : ∀ p, W p ↔ W' p) : Cheap W' c n ps :=
  ⟨h.nd, fun p hp => (he p).1 (h.all p hp), h.len, h.srt, fun x hx => h.told x ((he x).2 hx)⟩
end
end Go.Proofs.Ytndajklppipckaa
