/- What ways from a place to an end cost. -/
/- What ways from a state to an end cost, by the words that they read and write (plain). -/
import Derived.Test.YtikkmoleneioeaaCost
namespace Go.Proofs.Ytikkmoleneioeaa

/-- what ways from a place to an end cost -/
inductive Acc (m : MachL) (x y : List Int) (any : Bool) : Pl → Int → Prop
  | fin {p : Pl} : endsP x y any p = true → finalP m p ≠ INF → Acc m x y any p (finalP m p)
  | arc {p : Pl} {a : ArcL} {q : Pl} {c : Int} : a ∈ arcsP m p → nextP x y any p a = some q → Acc m x y any q c → Acc m x y any p (a.wt + c)
theorem acc_start {m : MachL} {x y : List Int} {any : Bool} {p : Pl} {d : Int} (h : RW m x y any p d) : ∀ c, Acc m x y any p c → 0 ≤ m.start ∧ Acc m x y any (m.start.toNat, 0, 0) (d + c) := by
  induction h with
  | start h0 => intro c hc; rw [Int.zero_add]; exact ⟨h0, hc⟩
  | step _ ha hn ih => intro c hc; rw [Int.add_assoc]; exact ih _ (.arc ha hn hc)
theorem acc_tot {m : MachL} {x y : List Int} {any : Bool} {p : Pl} {c : Int} (h : Acc m x y any p c) : ∀ d, RW m x y any p d → Tot m x y any (d + c) := by
  induction h with
  | fin he hf => intro d hr; exact ⟨_, d, hr, he, hf, rfl⟩
  | arc ha hn _ ih => intro d hr; rw [← Int.add_assoc]; exact ih _ (hr.step ha hn)
theorem tot_acc {m : MachL} {x y : List Int} {any : Bool} {c : Int} : Tot m x y any c ↔ 0 ≤ m.start ∧ Acc m x y any (m.start.toNat, 0, 0) c := by
  constructor
  · rintro ⟨p, d, hr, he, hf, rfl⟩
    exact acc_start hr _ (.fin he hf)
  · rintro ⟨h0, h⟩
    have := acc_tot h 0 (.start h0)
    rwa [Int.zero_add] at this

end Go.Proofs.Ytikkmoleneioeaa

namespace Go.Proofs.Ytikkmoleneioeaa

/-- a label as a word -/
def pre (lab : Int) : List Int := if lab = 0 then [] else [lab]
inductive AccW (m : MachL) : Nat → List Int → List Int → Int → Prop
  | fin {q : Nat} {s : StateL} : m.states[q]? = some s → s.final ≠ INF → AccW m q [] [] s.final
  | arc {q : Nat} {s : StateL} {a : ArcL} {x y : List Int} {c : Int} : m.states[q]? = some s → a ∈ s.arcs → AccW m a.to.toNat x y c → AccW m q (pre a.inn ++ x) (pre a.out ++ y) (a.wt + c)

theorem drop_step {x : List Int} {i : Nat} {lab : Int} (h : stepOk x i lab = true) : x.drop i = pre lab ++ x.drop (stepAt i lab) := by
  unfold stepOk at h; unfold stepAt pre
  split
  · rfl
  · rename_i hl
    rw [if_neg hl] at h
    simp only [hitB, decide_eq_true_eq] at h
    obtain ⟨h1, h2⟩ := List.getElem?_eq_some_iff.1 h
    rw [List.drop_eq_getElem_cons h1, h2]; rfl
theorem step_drop {x x' : List Int} {i : Nat} {lab : Int} (h : x.drop i = pre lab ++ x') : stepOk x i lab = true ∧ x' = x.drop (stepAt i lab) := by
  unfold stepOk stepAt
  unfold pre at h
  split
  · rename_i hl
    rw [if_pos hl] at h
    exact ⟨rfl, by simpa using h.symm⟩
  · rename_i hl
    rw [if_neg hl] at h
    have h1 : i < x.length := by
      rcases Nat.lt_or_ge i x.length with h1 | h1
      · exact h1
      · rw [List.drop_of_length_le h1] at h; simp at h
    rw [List.drop_eq_getElem_cons h1] at h
    simp only [List.singleton_append, List.cons.injEq] at h
    refine ⟨?_, h.2.symm⟩
    simp only [hitB, decide_eq_true_eq]
    rw [List.getElem?_eq_getElem h1, h.1]
theorem acc_accW {m : MachL} {x y : List Int} {p : Pl} {c : Int} (h : Acc m x y false p c) : AccW m p.1 (x.drop p.2.1) (y.drop p.2.2) c := by
  induction h with
  | @fin p he hf =>
    unfold endsP at he
    simp only [Bool.false_or, Bool.and_eq_true, beq_iff_eq] at he
    rw [he.1, he.2, List.drop_length, List.drop_length]
    unfold finalP at *
    cases hs : m.states[p.1]? with
    | none => rw [hs] at hf; exact absurd rfl hf
    | some s =>
      rw [hs] at hf
      exact AccW.fin hs hf
  | @arc p a q c ha hn _ ih =>
    obtain ⟨s, hs, _, has⟩ := arcsP_mem ha
    unfold nextP at hn
    simp only [Bool.false_or, Bool.false_eq_true, if_false] at hn
    split at hn
    · rename_i hh
      simp only [Bool.and_eq_true] at hh
      cases hn
      rw [drop_step hh.1, drop_step hh.2]
      exact AccW.arc hs has ih
    · cases hn
theorem accW_acc {m : MachL} {x y : List Int} {q : Nat} {u v : List Int} {c : Int} (h : AccW m q u v c) : ∀ i j, i ≤ x.length → j ≤ y.length → u = x.drop i → v = y.drop j → Acc m x y false (q, i, j) c := by
  induction h with
  | @fin q s hs hf =>
    intro i j hi hj hu hv
    have h1 := congrArg List.length hu; have h2 := congrArg List.length hv
    simp only [List.length_nil, List.length_drop] at h1 h2
    have e : finalP m (q, i, j) = s.final := by unfold finalP; simp only [hs]; rfl
    rw [← e]
    refine Acc.fin ?_ (by rw [e]; exact hf)
    unfold endsP
    simp only [Bool.false_or, Bool.and_eq_true, beq_iff_eq]; omega
  | @arc q s a x' y' c hs ha _ ih =>
    intro i j hi hj hu hv
    obtain ⟨h1, h2⟩ := step_drop hu.symm
    obtain ⟨h3, h4⟩ := step_drop hv.symm
    refine Acc.arc (a := a) (q := (a.to.toNat, stepAt i a.inn, stepAt j a.out)) ?_ ?_ (ih _ _ (stepAt_le h1 hi) (stepAt_le h3 hj) h2 h4)
    · unfold arcsP; simp only [hs]; exact ha
    · unfold nextP
      simp only [Bool.false_or, Bool.false_eq_true, if_false]
      rw [if_pos (by rw [h1, h3]; rfl)]
/-- the costs of two words in a machine -/
theorem tot_accW {m : MachL} {x y : List Int} {c : Int} : Tot m x y false c ↔ 0 ≤ m.start ∧ AccW m m.start.toNat x y c := by
  rw [tot_acc]
  refine and_congr_right fun _ => ⟨fun h => ?_, fun h => accW_acc h 0 0 (Nat.zero_le _) (Nat.zero_le _) rfl rfl⟩
  have := acc_accW h
  simpa using this
theorem AccW.nonneg {m : MachL} (hv : Valid m) {q : Nat} {x y : List Int} {c : Int} (h : AccW m q x y c) : 0 ≤ c := by
  induction h with
  | @fin q s hs hf =>
    have h2 := (hv.st s (List.mem_of_getElem? hs)).1
    unfold ValidFinal at h2
    have : INF = 1000000001 := rfl
    omega
  | @arc q s a x y c hs ha _ ih =>
    have := ((hv.st s (List.mem_of_getElem? hs)).2 a ha).w0
    omega
theorem AccW.lt {m : MachL} {q : Nat} {x y : List Int} {c : Int} (h : AccW m q x y c) : q < m.states.length := by
  cases h with
  | fin hs _ => exact (List.getElem?_eq_some_iff.1 hs).1
  | arc hs _ _ => exact (List.getElem?_eq_some_iff.1 hs).1
end Go.Proofs.Ytikkmoleneioeaa
