/- What Trim makes (plain). -/
import Derived.Test.YtlfjccgbngnjhaaAhead
import Derived.Test.YtlfjccgbngnjhaaBackPlain
namespace Go.Proofs.Ytlfjccgbngnjhaa

def num (K : List Bool) (q : Nat) : Int := if K.getD q false = true then (((K.take q).count true : Nat) : Int) else -1
def numArc (K : List Bool) (a : ArcL) : ArcL := ⟨a.inn, a.out, a.wt, num K a.to.toNat⟩
def trimArcs (K : List Bool) (l : List ArcL) : List ArcL := (l.filter fun a => K.getD a.to.toNat false).map (numArc K)
def trimState (K : List Bool) (s : StateL) : StateL := ⟨s.final, trimArcs K s.arcs⟩
/-- the states that are kept, of the first k -/
def keptUpto (K : List Bool) (ss : List StateL) (k : Nat) : List StateL := (((ss.zip K).take k).filter (·.2)).map (·.1)
def trimStates (K : List Bool) (ss : List StateL) (k : Nat) : List StateL := (keptUpto K ss k).map (trimState K)
def trimMach (K : List Bool) (m : MachL) : MachL := ⟨if 0 ≤ m.start then num K m.start.toNat else -1, trimStates K m.states m.states.length⟩

theorem num_snoc (K : List Bool) (k : Nat) (h : k < K.length) : (K.take (k + 1)).count true = (K.take k).count true + if K.getD k false = true then 1 else 0 := by
  rw [List.take_succ_eq_append_getElem h, List.count_append]
  have : K.getD k false = K[k] := by simp [List.getD_eq_getElem?_getD, h]
  rw [this]
  cases K[k] <;> simp
theorem count_le (K : List Bool) (k : Nat) : (K.take k).count true ≤ k := Nat.le_trans List.count_le_length (by simp; omega)

theorem keptUpto_snoc (K : List Bool) (ss : List StateL) (hl : K.length = ss.length) (k : Nat) (h : k < ss.length) : keptUpto K ss (k + 1) = if K.getD k false = true then keptUpto K ss k ++ [ss[k]] else keptUpto K ss k := by
  unfold keptUpto
  have hz : k < (ss.zip K).length := by simp [hl]; exact h
  have : K.getD k false = K[k]'(by omega) := by simp [List.getD_eq_getElem?_getD, show k < K.length by omega]
  rw [List.take_succ_eq_append_getElem hz, List.filter_append, List.map_append, this]
  have e : (ss.zip K)[k] = (ss[k], K[k]'(by omega)) := by simp
  rw [e]
  cases K[k]'(by omega) <;> simp
theorem trimStates_snoc (K : List Bool) (ss : List StateL) (hl : K.length = ss.length) (k : Nat) (h : k < ss.length) : trimStates K ss (k + 1) = if K.getD k false = true then trimStates K ss k ++ [trimState K ss[k]] else trimStates K ss k := by
  unfold trimStates; rw [keptUpto_snoc K ss hl k h]
  split
  · rw [List.map_append]; rfl
  · rfl
theorem keptUpto_len (K : List Bool) (ss : List StateL) (hl : K.length = ss.length) : ∀ k, k ≤ ss.length → (keptUpto K ss k).length = (K.take k).count true := by
  intro k
  induction k with
  | zero => intro _; simp [keptUpto]
  | succ k ih =>
    intro hk
    rw [keptUpto_snoc K ss hl k (by omega), num_snoc K k (by omega)]
    have := ih (by omega)
    split
    · simp; omega
    · omega
theorem trimStates_len (K : List Bool) (ss : List StateL) (hl : K.length = ss.length) (k : Nat) (hk : k ≤ ss.length) : (trimStates K ss k).length = (K.take k).count true := by
  unfold trimStates; rw [List.length_map]; exact keptUpto_len K ss hl k hk
theorem trimArcs_snoc (K : List Bool) (l : List ArcL) (t : Nat) (h : t < l.length) : trimArcs K (l.take (t + 1)) = if K.getD l[t].to.toNat false = true then trimArcs K (l.take t) ++ [numArc K l[t]] else trimArcs K (l.take t) := by
  unfold trimArcs
  rw [List.take_succ_eq_append_getElem h, List.filter_append, List.map_append]
  cases e : K.getD l[t].to.toNat false
  · rw [if_neg (by simp), List.filter_cons, e]; simp only [Bool.false_eq_true, if_false, List.filter_nil, List.map_nil, List.append_nil]
  · rw [if_pos rfl, List.filter_cons, e]; simp only [if_true, List.filter_nil, List.map_cons, List.map_nil]
theorem trimArcs_len (K : List Bool) (l : List ArcL) : (trimArcs K l).length ≤ l.length := by
  unfold trimArcs; rw [List.length_map]; exact List.length_filter_le _ _

/-- the numbers of the first k states, the others 0 still -/
def numsUpto (K : List Bool) (n k : Nat) : List Int := (List.range k).map (num K) ++ List.replicate (n - k) 0
theorem numsUpto_len (K : List Bool) (n k : Nat) (h : k ≤ n) : (numsUpto K n k).length = n := by simp [numsUpto]; omega
theorem numsUpto_set (K : List Bool) (n k : Nat) (h : k < n) : (numsUpto K n k).set k (num K k) = numsUpto K n (k + 1) := by
  unfold numsUpto
  rw [List.set_append, if_neg (by simp)]
  obtain ⟨d, hd⟩ : ∃ d, n - k = d + 1 := ⟨n - k - 1, by omega⟩
  rw [hd, show n - (k + 1) = d by omega, List.range_succ, List.map_append]
  simp [List.replicate_succ]
theorem numsUpto_get (K : List Bool) (n q : Nat) (h : q < n) : (numsUpto K n n)[q]? = some (num K q) := by
  simp [numsUpto, h]

noncomputable def keepOf (m : MachL) : List Bool := (List.range m.states.length).map fun q => @decide (Reach (aheadOf m.states) (startOf m) q ∧ Reach (backOf m.states) (endsOf m.states) q) (Classical.propDecidable _)
noncomputable def trimM (m : MachL) : MachL := trimMach (keepOf m) m
theorem keepOf_len (m : MachL) : (keepOf m).length = m.states.length := by simp [keepOf]
theorem keepOf_iff (m : MachL) (q : Nat) (h : q < m.states.length) : (keepOf m).getD q false = true ↔ Reach (aheadOf m.states) (startOf m) q ∧ Reach (backOf m.states) (endsOf m.states) q := by
  simp [keepOf, List.getD_eq_getElem?_getD, h]
/-- of what is seen from both sides -/
theorem keepOf_get (m : MachL) {sa sb : List Bool} (ha : ∀ q, sa.getD q false = true ↔ Reach (aheadOf m.states) (startOf m) q) (hb : ∀ q, sb.getD q false = true ↔ Reach (backOf m.states) (endsOf m.states) q) (q : Nat) (h : q < m.states.length) : (keepOf m).getD q false = (sa.getD q false && sb.getD q false) := by
  rw [Bool.eq_iff_iff, keepOf_iff m q h, Bool.and_eq_true, ha, hb]
end Go.Proofs.Ytlfjccgbngnjhaa
