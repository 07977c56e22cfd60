/- Plain laws of twins, no program in sight: what TwinRing asks. -/
import Derived.Test.YtgepgokaodcpcaaTwin
namespace Go.Proofs.Ytgepgokaodcpcaa

theorem lessB_iff (a b c d : Int) : lessB a b c d = true ↔ (a < c ∨ a = c ∧ b < d) := by simp [lessB]
theorem p_c (a b c d : Int) : ((c < a ∨ c = a ∧ d < b) ∧ pA a b c d = c ∧ pB a b c d = d) ∨ (¬ (c < a ∨ c = a ∧ d < b) ∧ pA a b c d = a ∧ pB a b c d = b) := by
  unfold pA pB
  have := lessB_iff c d a b
  by_cases h : lessB c d a b = true
  · rw [if_pos h, if_pos h]; left; exact ⟨this.1 h, rfl, rfl⟩
  · rw [if_neg h, if_neg h]; right; exact ⟨fun h' => h (this.2 h'), rfl, rfl⟩
theorem t_c (a b c d : Int) : (((a = 1000000001 ∧ b = 1000000001) ∨ (c = 1000000001 ∧ d = 1000000001)) ∧ tA a b c d = 1000000001 ∧ tB a b c d = 1000000001) ∨ (¬ ((a = 1000000001 ∧ b = 1000000001) ∨ (c = 1000000001 ∧ d = 1000000001)) ∧ tA a b c d = a + c ∧ tB a b c d = b + d) := by
  unfold tA tB
  by_cases h : (a = 1000000001 ∧ b = 1000000001) ∨ (c = 1000000001 ∧ d = 1000000001)
  · rw [if_pos h, if_pos h]; exact .inl ⟨h, rfl, rfl⟩
  · rw [if_neg h, if_neg h]; exact .inr ⟨h, rfl, rfl⟩

/-- a third of the greatest at most, or no twin -/
def Tw3 (a b : Int) : Prop := (a = 1000000001 ∧ b = 1000000001) ∨ (0 ≤ a ∧ a ≤ 333333332 ∧ 0 ≤ b ∧ b ≤ 333333332)
def Tw6 (a b : Int) : Prop := (a = 1000000001 ∧ b = 1000000001) ∨ (0 ≤ a ∧ a ≤ 666666664 ∧ 0 ≤ b ∧ b ≤ 666666664)
theorem tw3_pair (a b : Int) : Tw3 (prA a) (prB a b) := by
  have h1 := pick_lo a 333333333 (by omega); have h2 := pick_hi a 333333333 (by omega)
  have h3 := pick_lo b 333333333 (by omega); have h4 := pick_hi b 333333333 (by omega)
  unfold Tw3 prA prB
  split <;> omega
variable {a b c d e f : Int}
theorem Tw3.ok (h : Tw3 a b) : TwOk a b := by unfold Tw3 at h; unfold TwOk; omega
theorem Tw6.ok (h : Tw6 a b) : TwOk a b := by unfold Tw6 at h; unfold TwOk; omega
theorem Tw3.six (h : Tw3 a b) : Tw6 a b := by unfold Tw3 at h; unfold Tw6; omega
theorem tw3_p (h : Tw3 a b) (k : Tw3 c d) : Tw3 (pA a b c d) (pB a b c d) := by
  have := p_c a b c d; unfold Tw3 at *; omega
theorem tw6_p (h : Tw6 a b) (k : Tw6 c d) : Tw6 (pA a b c d) (pB a b c d) := by
  have := p_c a b c d; unfold Tw6 at *; omega
theorem tw6_t (h : Tw3 a b) (k : Tw3 c d) : Tw6 (tA a b c d) (tB a b c d) := by
  have := t_c a b c d; unfold Tw3 at *; unfold Tw6; omega
theorem fits3 (h : Tw3 a b) (k : Tw3 c d) : TwFits a b c d := ⟨h.ok, k.ok, by unfold Tw3 at h k; omega⟩
theorem fits63 (h : Tw6 a b) (k : Tw3 c d) : TwFits a b c d := ⟨h.ok, k.ok, by unfold Tw6 at h; unfold Tw3 at k; omega⟩
theorem fits36 (h : Tw3 a b) (k : Tw6 c d) : TwFits a b c d := ⟨h.ok, k.ok, by unfold Tw3 at h; unfold Tw6 at k; omega⟩

theorem p_comm : pA a b c d = pA c d a b ∧ pB a b c d = pB c d a b := by
  have h1 := p_c a b c d; have h2 := p_c c d a b
  omega
theorem t_comm : tA a b c d = tA c d a b ∧ tB a b c d = tB c d a b := by
  have h1 := t_c a b c d; have h2 := t_c c d a b
  omega
theorem p_assoc : pA (pA a b c d) (pB a b c d) e f = pA a b (pA c d e f) (pB c d e f) ∧ pB (pA a b c d) (pB a b c d) e f = pB a b (pA c d e f) (pB c d e f) := by
  have h1 := p_c a b c d; have h2 := p_c c d e f
  have h3 := p_c (pA a b c d) (pB a b c d) e f; have h4 := p_c a b (pA c d e f) (pB c d e f)
  generalize pA a b c d = x at *; generalize pB a b c d = y at *; generalize pA c d e f = z at *; generalize pB c d e f = u at *
  generalize pA x y e f = x1 at *; generalize pB x y e f = y1 at *; generalize pA a b z u = z1 at *; generalize pB a b z u = u1 at *
  omega
theorem t_fin (h : a ≠ 1000000001) (k : c ≠ 1000000001) : tA a b c d = a + c ∧ tB a b c d = b + d := by
  unfold tA tB; rw [if_neg (by omega), if_neg (by omega)]; exact ⟨rfl, rfl⟩
theorem t_inl : tA 1000000001 1000000001 c d = 1000000001 ∧ tB 1000000001 1000000001 c d = 1000000001 := by simp [tA, tB]
theorem t_inr : tA a b 1000000001 1000000001 = 1000000001 ∧ tB a b 1000000001 1000000001 = 1000000001 := by simp [tA, tB]
theorem t_assoc (h : Tw3 a b) (k : Tw3 c d) (l : Tw3 e f) : tA (tA a b c d) (tB a b c d) e f = tA a b (tA c d e f) (tB c d e f) ∧ tB (tA a b c d) (tB a b c d) e f = tB a b (tA c d e f) (tB c d e f) := by
  rcases h with ⟨rfl, rfl⟩ | h
  · simp [t_inl]
  · rcases k with ⟨rfl, rfl⟩ | k
    · simp [t_inl, t_inr]
    · rcases l with ⟨rfl, rfl⟩ | l
      · simp [t_inr]
      · have h1 := t_fin (a := a) (b := b) (c := c) (d := d) (by omega) (by omega)
        have h2 := t_fin (a := c) (b := d) (c := e) (d := f) (by omega) (by omega)
        rw [h1.1, h1.2, h2.1, h2.2]
        have h3 := t_fin (a := a + c) (b := b + d) (c := e) (d := f) (by omega) (by omega)
        have h4 := t_fin (a := a) (b := b) (c := c + e) (d := d + f) (by omega) (by omega)
        omega
theorem t_dist (h : Tw3 a b) (k : Tw3 c d) (l : Tw3 e f) : tA a b (pA c d e f) (pB c d e f) = pA (tA a b c d) (tB a b c d) (tA a b e f) (tB a b e f) ∧ tB a b (pA c d e f) (pB c d e f) = pB (tA a b c d) (tB a b c d) (tA a b e f) (tB a b e f) := by
  rcases h with ⟨rfl, rfl⟩ | h
  · simp [t_inl, pA, pB]
  · rcases k with ⟨rfl, rfl⟩ | k
    · rw [t_inr.1, t_inr.2]
      rcases l with ⟨rfl, rfl⟩ | l
      · simp [pA, pB, t_inr]
      · have h1 := t_fin (a := a) (b := b) (c := e) (d := f) (by omega) (by omega)
        rw [h1.1, h1.2]
        have h2 := p_c 1000000001 1000000001 e f
        have h3 := p_c 1000000001 1000000001 (a + e) (b + f)
        have h4 : pA 1000000001 1000000001 e f = e := by omega
        have h5 : pB 1000000001 1000000001 e f = f := by omega
        rw [h4, h5, h1.1, h1.2]
        omega
    · have h1 := t_fin (a := a) (b := b) (c := c) (d := d) (by omega) (by omega)
      rw [h1.1, h1.2]
      rcases l with ⟨rfl, rfl⟩ | l
      · rw [t_inr.1, t_inr.2]
        have h2 := p_c c d 1000000001 1000000001
        have h3 := p_c (a + c) (b + d) 1000000001 1000000001
        have h4 : pA c d 1000000001 1000000001 = c := by omega
        have h5 : pB c d 1000000001 1000000001 = d := by omega
        rw [h4, h5, h1.1, h1.2]
        omega
      · have h2 := t_fin (a := a) (b := b) (c := e) (d := f) (by omega) (by omega)
        rw [h2.1, h2.2]
        have h3 := p_c (a + c) (b + d) (a + e) (b + f)
        rcases p_c c d e f with ⟨q, q1, q2⟩ | ⟨q, q1, q2⟩
        · rw [q1, q2, h2.1, h2.2]; omega
        · rw [q1, q2, h1.1, h1.2]; omega
theorem p_inf (h : Tw3 a b) : pA a b 1000000001 1000000001 = a ∧ pB a b 1000000001 1000000001 = b := by
  have h1 := p_c a b 1000000001 1000000001; unfold Tw3 at h; omega
theorem t_inf : tA a b 1000000001 1000000001 = 1000000001 ∧ tB a b 1000000001 1000000001 = 1000000001 := by
  have h1 := t_c a b 1000000001 1000000001; omega
theorem t_zero : tA a b 0 0 = a ∧ tB a b 0 0 = b := by
  have h1 := t_c a b 0 0; omega
end Go.Proofs.Ytgepgokaodcpcaa
