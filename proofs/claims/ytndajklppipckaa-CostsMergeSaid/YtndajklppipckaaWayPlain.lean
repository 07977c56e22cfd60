/- Whole ways of a machine, by the numbers of their arcs, the last one first; what best.Costs holds on its way (plain). -/
import Derived.Test.YtndajklppipckaaCheapPlain
import Derived.Test.YtndajklppipckaaMem
namespace Go.Proofs.Ytndajklppipckaa

def arcsAt (m : MachL) (q : Nat) : List ArcL := ((m.states[q]?).map (·.arcs)).getD []
def finI (m : MachL) (q : Nat) : Int := ((m.states[q]?).map (·.final)).getD 1000000001
def pw (m : MachL) (s : Nat) : List Nat → Option (Nat × Int)
  | [] => some (s, 0)
  | i :: p => match pw m s p with
    | none => none
    | some x => match (arcsAt m x.1)[i]? with
      | none => none
      | some a => some (a.to.toNat, x.2 + a.wt)
def pq (m : MachL) (s : Nat) (p : List Nat) : Nat := ((pw m s p).map (·.1)).getD 0
def pc (m : MachL) (s : Nat) (p : List Nat) : Int := ((pw m s p).map (·.2)).getD 0
def Whole (m : MachL) (s : Nat) (p : List Nat) : Prop := (pw m s p).isSome = true ∧ finI m (pq m s p) ≠ 1000000001
def wcost (m : MachL) (s : Nat) (p : List Nat) : Int := pc m s p + finI m (pq m s p)
section
variable {m : MachL} {s : Nat} {d : Nat → Int}
theorem pw_cons_none {p : List Nat} (h : pw m s p = none) (i : Nat) : pw m s (i :: p) = none := by simp only [pw, h]
theorem pw_cons {p : List Nat} {q : Nat} {c : Int} (h : pw m s p = some (q, c)) (i : Nat) : pw m s (i :: p) = ((arcsAt m q)[i]?).map (fun a => (a.to.toNat, c + a.wt)) := by
  simp only [pw, h]
  cases (arcsAt m q)[i]? <;> rfl
theorem pw_app (p : List Nat) : ∀ e, pw m s (e ++ p) = (pw m s p).bind (fun x => (pw m x.1 e).map (fun y => (y.1, x.2 + y.2))) := by
  intro e
  induction e with
  | nil =>
    rw [List.nil_append]
    cases h : pw m s p with
    | none => rfl
    | some x => simp [pw]
  | cons i e ih =>
    rw [List.cons_append]
    cases h : pw m s p with
    | none =>
      rw [h] at ih
      rw [pw_cons_none (by simpa using ih)]; rfl
    | some x =>
      rw [h] at ih
      simp only [Option.bind_some] at ih ⊢
      cases h2 : pw m x.1 e with
      | none => rw [h2] at ih; rw [pw_cons_none ih, pw_cons_none h2]; rfl
      | some y =>
        rw [h2] at ih
        simp only [Option.map_some] at ih
        rw [pw_cons ih, pw_cons (q := y.1) (c := y.2) h2]
        cases (arcsAt m y.1)[i]? with
        | none => rfl
        | some a => simp [Int.add_assoc]
theorem pq_of {p : List Nat} {x : Nat × Int} (h : pw m s p = some x) : pq m s p = x.1 ∧ pc m s p = x.2 := by unfold pq pc; rw [h]; exact ⟨rfl, rfl⟩
/-- d: how far it is to an end; 1000000001: there is none -/
structure DFar (m : MachL) (d : Nat → Int) : Prop where
  fin : ∀ q, finI m q ≠ 1000000001 → d q ≠ 1000000001 ∧ d q ≤ finI m q
  arc : ∀ q, ∀ a ∈ arcsAt m q, d a.to.toNat ≠ 1000000001 → d q ≠ 1000000001 ∧ d q ≤ a.wt + d a.to.toNat
theorem DFar.low (h : DFar m d) : ∀ (e : List Nat) (s q : Nat) (c : Int), pw m s e = some (q, c) → d q ≠ 1000000001 → d s ≠ 1000000001 ∧ d s ≤ c + d q := by
  intro e
  induction e with
  | nil => intro s q c he hd; cases he; exact ⟨hd, by omega⟩
  | cons i e ih =>
    intro s q c he hd
    cases h2 : pw m s e with
    | none => rw [pw_cons_none h2] at he; cases he
    | some y =>
      rw [pw_cons (q := y.1) (c := y.2) h2] at he
      cases h3 : (arcsAt m y.1)[i]? with
      | none => rw [h3] at he; cases he
      | some a =>
        rw [h3] at he
        cases he
        obtain ⟨g1, g2⟩ := h.arc _ _ (List.mem_of_getElem? h3) hd
        obtain ⟨g3, g4⟩ := ih s y.1 y.2 h2 g1
        exact ⟨g3, by omega⟩
def begs (m : MachL) (s : Nat) (d : Nat → Int) (h : DFar m d) : Begs where
  V p := (pw m s p).isSome = true ∧ d (pq m s p) ≠ 1000000001
  q := pq m s
  c := pc m s
  E q := finI m q ≠ 1000000001
  fin := finI m
  d := d
  same := by
    intro e p p' hq ⟨h1, h2⟩ ⟨h3, h4⟩
    obtain ⟨x, hx⟩ := Option.isSome_iff_exists.1 h1
    have hpp := pw_app (m := m) (s := s) p e
    have hp2 := pw_app (m := m) (s := s) p' e
    cases hp : pw m s p with
    | none => rw [hpp, hp] at h3; cases h3
    | some y =>
      have e1 : x.1 = y.1 := by rw [← (pq_of hx).1, ← hq, (pq_of hp).1]
      rw [hp] at hpp
      rw [hx] at hp2
      simp only [Option.bind_some] at hpp hp2
      rw [e1] at hp2
      cases hz : pw m y.1 e with
      | none => rw [hpp, hz] at h3; cases h3
      | some z =>
        rw [hz] at hpp hp2
        simp only [Option.map_some] at hpp hp2
        rw [(pq_of hpp).1] at h4
        rw [(pq_of hpp).1, (pq_of hpp).2, (pq_of hp2).1, (pq_of hp2).2, (pq_of hp).2, (pq_of hx).2, hp2]
        exact ⟨⟨rfl, h4⟩, rfl, by simp only; omega⟩
  low := by
    intro e p ⟨h1, h2⟩ h3
    have hpp := pw_app (m := m) (s := s) p e
    cases hp : pw m s p with
    | none => rw [hpp, hp] at h1; cases h1
    | some y =>
      rw [hp] at hpp
      simp only [Option.bind_some] at hpp
      cases hz : pw m y.1 e with
      | none => rw [hpp, hz] at h1; cases h1
      | some z =>
        rw [hz] at hpp
        simp only [Option.map_some] at hpp
        rw [(pq_of hpp).1] at h2 h3
        rw [(pq_of hpp).1, (pq_of hpp).2, (pq_of hp).1, (pq_of hp).2]
        have g1 := h.low e y.1 z.1 z.2 hz h2
        have g2 := h.fin _ h3
        simp only at g1 g2 ⊢
        omega
  back := by
    intro e p ⟨h1, h2⟩
    have hpp := pw_app (m := m) (s := s) p e
    cases hp : pw m s p with
    | none => rw [hpp, hp] at h1; cases h1
    | some y =>
      rw [hp] at hpp
      simp only [Option.bind_some] at hpp
      cases hz : pw m y.1 e with
      | none => rw [hpp, hz] at h1; cases h1
      | some z =>
        rw [hz] at hpp
        simp only [Option.map_some] at hpp
        rw [(pq_of hpp).1] at h2
        exact ⟨rfl, by rw [(pq_of hp).1]; exact (h.low e y.1 z.1 z.2 hz h2).1⟩
end
end Go.Proofs.Ytndajklppipckaa
