/- Sums of naturals over the first numbers. -/
import Derived.Test.YtfikkpgigicepaaForwardPlain
namespace Go.Proofs.Ytfikkpgigicepaa

def nsum (n : Nat) (f : Nat → Nat) : Nat := ((List.range n).map f).sum
theorem nsum_zero (f : Nat → Nat) : nsum 0 f = 0 := rfl
theorem nsum_succ (n : Nat) (f : Nat → Nat) : nsum (n + 1) f = nsum n f + f n := by simp [nsum, List.range_succ]
theorem nsum_congr {n : Nat} {f g : Nat → Nat} (h : ∀ q, q < n → f q = g q) : nsum n f = nsum n g := by
  induction n with
  | zero => rfl
  | succ n ih => rw [nsum_succ, nsum_succ, ih (fun q hq => h q (by omega)), h n (by omega)]
theorem nsum_const (n c : Nat) : nsum n (fun _ => c) = n * c := by
  induction n with
  | zero => simp [nsum_zero]
  | succ n ih => rw [nsum_succ, ih, Nat.add_mul]; omega
theorem nsum_add (n : Nat) (f g : Nat → Nat) : nsum n (fun q => f q + g q) = nsum n f + nsum n g := by
  induction n with
  | zero => rfl
  | succ n ih => simp only [nsum_succ, ih]; omega
theorem nsum_mul (n c : Nat) (f : Nat → Nat) : nsum n (fun q => c * f q) = c * nsum n f := by
  induction n with
  | zero => rfl
  | succ n ih => simp only [nsum_succ, ih, Nat.mul_add]
theorem nsum_mulr (n c : Nat) (f : Nat → Nat) : nsum n (fun q => f q * c) = nsum n f * c := by
  induction n with
  | zero => simp [nsum_zero]
  | succ n ih => simp only [nsum_succ, ih, Nat.add_mul]
theorem nsum_le {n : Nat} {f g : Nat → Nat} (h : ∀ q, q < n → f q ≤ g q) : nsum n f ≤ nsum n g := by
  induction n with
  | zero => exact Nat.le_refl _
  | succ n ih =>
    have h1 := ih (fun q hq => h q (by omega))
    have h2 := h n (by omega)
    rw [nsum_succ, nsum_succ]; omega
theorem nsum_comm (n k : Nat) (f : Nat → Nat → Nat) : nsum n (fun p => nsum k (fun q => f p q)) = nsum k (fun q => nsum n (fun p => f p q)) := by
  induction n with
  | zero => simp only [nsum_zero]; rw [nsum_const]; simp
  | succ n ih => simp only [nsum_succ, ih, nsum_add]
theorem nsum_at {n s : Nat} (hs : s < n) (f : Nat → Nat) : nsum n (fun q => if q = s then f q else 0) = f s := by
  induction n with
  | zero => omega
  | succ n ih =>
    rw [nsum_succ]
    by_cases e : n = s
    · subst e
      rw [if_pos rfl, nsum_congr (g := fun _ => 0) (fun q hq => if_neg (by omega)), nsum_const]
      simp
    · rw [if_neg e, ih (by omega)]; rfl
theorem nsum_zero_of {n : Nat} {f : Nat → Nat} (h : ∀ q, q < n → f q = 0) : nsum n f = 0 := by
  rw [nsum_congr (g := fun _ => 0) h, nsum_const]; simp
theorem nsum_ge {n q : Nat} (hq : q < n) (f : Nat → Nat) : f q ≤ nsum n f := by
  induction n with
  | zero => omega
  | succ n ih =>
    rw [nsum_succ]
    by_cases e : n = q
    · subst e; omega
    · have := ih (by omega); omega
theorem nsum_eq_zero {n : Nat} {f : Nat → Nat} (h : nsum n f = 0) (q : Nat) (hq : q < n) : f q = 0 := by
  have := nsum_ge hq f; omega
/-- the first one apart -/
theorem nsum_first (n : Nat) (f : Nat → Nat) : nsum (n + 1) f = f 0 + nsum n (fun q => f (q + 1)) := by
  induction n with
  | zero => simp [nsum_succ, nsum_zero]
  | succ n ih => rw [nsum_succ, ih, nsum_succ]; omega
theorem nsum_app (n k : Nat) (f : Nat → Nat) : nsum (n + k) f = nsum n f + nsum k (fun q => f (n + q)) := by
  induction k with
  | zero => simp [nsum_zero]
  | succ k ih => rw [← Nat.add_assoc, nsum_succ, ih, nsum_succ]; omega
theorem nsum_of_perm {n : Nat} {out : List Nat} (hd : out.Nodup) (hm : ∀ q, q ∈ out ↔ q < n) (f : Nat → Nat) : nsum n f = (out.map f).sum := by
  have hp : out.Perm (List.range n) := (List.perm_ext_iff_of_nodup hd List.nodup_range).2 (fun q => by rw [hm, List.mem_range])
  exact ((hp.map f).sum_nat).symm
theorem sum_zero_of {L : List Nat} {f : Nat → Nat} (h : ∀ q ∈ L, f q = 0) : (L.map f).sum = 0 := by
  induction L with
  | nil => rfl
  | cons a L ih => rw [List.map_cons, List.sum_cons, h a (by simp), ih (fun q hq => h q (by simp [hq]))]
/-- numbers that are the sums of those that lead to them -/
theorem counts_ex (n N : Nat) (g : Nat → Nat) (a : Nat → Nat → Nat) (rank : Nat → Nat) (hN : ∀ q, q < n → rank q < N) (h : ∀ p q, p < n → q < n → a p q ≠ 0 → rank p < rank q) : ∃ M : Nat → Nat, ∀ q, q < n → M q = g q + nsum n (fun p => M p * a p q) := by
  have key : ∀ R, ∃ M : Nat → Nat, ∀ q, q < n → rank q < R → M q = g q + nsum n (fun p => M p * a p q) := by
    intro R
    induction R with
    | zero => exact ⟨fun _ => 0, fun q _ h => by omega⟩
    | succ R ih =>
      obtain ⟨M, hM⟩ := ih
      refine ⟨fun q => if rank q = R then g q + nsum n (fun p => M p * a p q) else M q, fun q hq hr => ?_⟩
      have e : nsum n (fun p => (if rank p = R then g p + nsum n (fun p' => M p' * a p' p) else M p) * a p q) = nsum n (fun p => M p * a p q) := nsum_congr fun p hp => by
        by_cases hz : a p q = 0
        · rw [hz]; simp
        · have := h p q hp hq hz
          rw [if_neg (by omega)]
      show (if rank q = R then g q + nsum n (fun p => M p * a p q) else M q) = _
      rw [e]
      by_cases hR : rank q = R
      · rw [if_pos hR]
      · rw [if_neg hR]; exact hM q hq (by omega)
  obtain ⟨M, hM⟩ := key N
  exact ⟨M, fun q hq => hM q hq (hN q hq)⟩
end Go.Proofs.Ytfikkpgigicepaa
