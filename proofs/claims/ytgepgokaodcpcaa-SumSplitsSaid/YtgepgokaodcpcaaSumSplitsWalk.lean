/- The walk of SumSplits. -/
import Derived.Test.YtgepgokaodcpcaaWeights
import Derived.Deep.DeepCutAuto
import Derived.Deep.CutBlock
namespace Go.Proofs.Ytgepgokaodcpcaa.sumSplits
open Go.RowKit

theorem rd_ints {w : World} {A : Option Addr} {n : Nat} {c : Nat} {xs : List Int} (h : Rd w A n 1 (icells xs)) : IntsAt w (.slice A n c) xs := by
  have hl : xs.length = n := by simpa using h.len
  rcases Nat.eq_zero_or_pos n with h0 | h0
  · left; rw [h0] at hl ⊢; exact ⟨List.eq_nil_of_length_eq_zero hl, A, c, rfl⟩
  · right
    have ha := h.rdy h0
    refine ⟨blk A, ofs A, c, by rw [hl]; exact congrArg (fun x => Value.slice x n c) ha, fun i hi => ?_⟩
    rw [h.cell i (by simpa using hi)]
    simp [List.getD, hi]

theorem wt_wts (xs : List Int) (k : Nat) (h : k < (wts xs).length) : Wt ((wts xs).getD k 0) := by
  rw [getD_at _ _ h]
  have : (wts xs)[k] ∈ wts xs := List.getElem_mem h
  unfold wts at this
  rw [List.mem_map] at this
  obtain ⟨x, -, hx⟩ := this
  have hx' : somew x = (wts xs)[k] := hx
  rw [← hx']
  have := somew_b x
  unfold Wt; omega

theorem foldl_min_le (xs : List Int) : ∀ m : Int, xs.foldl min m ≤ m ∧ ∀ x ∈ xs, xs.foldl min m ≤ x := by
  induction xs with
  | nil => intro m; simp
  | cons y ys ih =>
    intro m
    simp only [List.foldl_cons]
    have := ih (min m y)
    refine ⟨by omega, fun x hx => ?_⟩
    rcases List.mem_cons.1 hx with rfl | hx
    · omega
    · exact this.2 x hx
theorem foldl_min_mem (xs : List Int) : ∀ m : Int, xs.foldl min m = m ∨ xs.foldl min m ∈ xs := by
  induction xs with
  | nil => intro m; simp
  | cons y ys ih =>
    intro m
    simp only [List.foldl_cons]
    rcases ih (min m y) with h | h
    · rw [h]
      rcases Int.le_total m y with h1 | h1
      · left; omega
      · right; rw [show min m y = y by omega]; simp
    · right; exact List.mem_cons_of_mem _ h
theorem foldl_min_append (xs ys : List Int) (hx : ∀ x ∈ ys, x ≤ 1000000001) : leastOf (xs ++ ys) = mn (leastOf xs) (leastOf ys) := by
  unfold leastOf mn
  rw [List.foldl_append]
  have h1 := foldl_min_le ys (xs.foldl min 1000000001)
  have h2 := foldl_min_le ys 1000000001
  have h3 := foldl_min_le xs 1000000001
  rcases foldl_min_mem ys (xs.foldl min 1000000001) with h4 | h4 <;> rcases foldl_min_mem ys 1000000001 with h5 | h5
  · omega
  · have := h1.2 _ h5; omega
  · have := h2.2 _ h4; have := hx _ h4; omega
  · have := h1.2 _ h5; have := h2.2 _ h4; omega

theorem wts_len (xs : List Int) : (wts xs).length ≤ 100 := by unfold wts; simp; omega
theorem wts_le (xs : List Int) : ∀ x ∈ wts xs, x ≤ 1000000001 := by
  intro x hx
  unfold wts at hx
  obtain ⟨y, -, rfl⟩ := List.mem_map.1 hx
  have := somew_b y; omega
theorem wt_least (xs : List Int) : Wt (leastOf (wts xs)) := by
  have h1 := foldl_min_le (wts xs) 1000000001
  rcases foldl_min_mem (wts xs) 1000000001 with h | h
  · unfold leastOf Wt; omega
  · unfold wts at h
    obtain ⟨y, -, hy⟩ := List.mem_map.1 h
    have := somew_b y
    have e : leastOf (wts xs) = somew y := hy.symm
    rw [e]; unfold Wt; omega

/-- has one of the first k been the least? -/
def hadB (a : List Int) (m : Int) (k : Nat) : Bool := (a.take k).any (fun x => x == m)
theorem hadB_snoc (a : List Int) (m : Int) (k : Nat) (h : k < a.length) : hadB a m (k + 1) = (hadB a m k || a[k] == m) := by
  unfold hadB; rw [List.take_succ_eq_append_getElem h, List.any_append]; simp
theorem hadB_end (a : List Int) (h : leastOf a ≠ 1000000001) : hadB a (leastOf a) a.length = true := by
  unfold hadB
  rw [List.take_length, List.any_eq_true]
  rcases foldl_min_mem a 1000000001 with h1 | h1
  · exact absurd h1 h
  · exact ⟨_, h1, by simp [leastOf]⟩

theorem plus_at {a b c : Int} (w : World) (ha : Wt a) (hb : Wt b) (h : Hid (mn a b = c)) :
    Calls Try.prog 19 #[.int .i64 a, .int .i64 b] w fun e w' => e = .returned (.int .i64 c) ∧ Below w.heap.size w w' := by
  have := plus_any a b w ha hb
  rw [h.out] at this
  exact this

set_option maxRecDepth 100000 in
set_option maxHeartbeats 2000000 in
theorem walk {w : World} (A : Option Addr) (n c : Nat) (xs : List Int) (h0 : IntsArg w A n xs) (A' : Option Addr) (n' c' : Nat) (ys : List Int) (h1 : IntsArg w A' n' ys) :
    Calls Try.prog 6 #[.slice A n c, .slice A' n' c'] w fun e w' => e = .returned (.bool true) ∧ Below w.heap.size w w' := by
  have la := wts_len xs
  have lb := wts_len ys
  have wa := wt_least xs
  have wb := wt_least ys
  have HM := Lib.hid (foldl_min_append (wts xs) (wts ys) (wts_le ys)).symm
  have WA := Lib.hid (wt_wts xs); have WB := Lib.hid (wt_wts ys)
  have S0 := Lib.hid (weights_any A n c xs w h0)
  have h1' : ∀ w', Below w.heap.size w w' → IntsArg w' A' n' ys := by
    intro w' hb
    obtain ⟨p, q, r, t⟩ := h1
    refine ⟨p, q, r.imp id ?_, t⟩
    rintro ⟨b, off, hA, hc⟩
    exact ⟨b, off, hA, fun i hi => by rw [hb.cell (World.block_lt_of_cell? _ _ (hc i hi))]; exact hc i hi⟩
  have H1 := Lib.hid h1'; clear h1' h1 h0
  go_enter Try.func6, Try.ntmps6
  go_wp2_with fail
  refine S0.out.mono ?_; rintro e w1 ⟨va, rfl, own1, b1⟩
  go_wp2_with fail
  refine (weights_any A' n' c' ys w1 (H1.out w1 b1)).mono ?_; rintro e w2 ⟨vb, rfl, own2, b2⟩
  generalize wts xs = a at *
  generalize wts ys = b at *
  obtain ⟨Aa, ca, rfl, -, -⟩ := own_form own1
  obtain ⟨Ab, cb, rfl, -, -⟩ := own_form own2
  have ra : Rd w2 Aa a.length 1 (icells a) := (Rd.of_own own1).below b2 rfl
  have rb := Rd.of_own own2
  have bel := b1.trans (b2.mono b1.size)
  clear own1 own2 S0 H1
  go_wp2_with fail
  refine (Sum_ok _ a w2 (rd_ints ra) (by omega) WA.out).mono ?_; rintro e w3 ⟨rfl, rfl⟩
  go_wp2_with fail
  refine (Sum_ok _ b w2 (rd_ints rb) (by omega) WB.out).mono ?_; rintro e w3 ⟨rfl, rfl⟩
  go_wp2_with (first
    | (at_builtin; refine wpList_appR w2 rfl (.const (.slice none 0 0)) (.tmp 30) rfl eltInt w2.heap.size (.slice none 0 0) 0 [] rfl (World.ownsRow_nil _ _ _ _) Aa a.length ca (icells a) rfl ra (by simp [Value.oneCell']) (by omega) (by omega) (Nat.le_refl _) ?_; intro v3 w3 own3 g3 _h3)
    | (at_builtin; go_loud (refine wpList_appR w3 rfl (.tmp 31) (.tmp 32) rfl eltInt w2.heap.size v3 _ _ rfl own3 Ab b.length cb (icells b) rfl (rb.below (below_app (Below.refl _ w2) (World.ownsRow_nil w2 w2.heap.size 3 1) g3 (Nat.le_refl _) (Nat.le_refl _)) rfl) (by simp [Value.oneCell']) (by omega) (by omega) g3.size ?_); intro v4 w4 own4 g4 _h4))
  have bel3 := below_app (Below.refl _ w2) (World.ownsRow_nil w2 w2.heap.size 3 1) g3 (Nat.le_refl _) (Nat.le_refl _)
  have bel4 : Below w2.heap.size w2 w4 := below_app bel3 own3 g4 (Nat.le_refl _) g3.size
  simp only [Nat.zero_add, List.nil_append] at own4
  obtain ⟨A4, c4, rfl, -, -⟩ := own_form own4
  have r4 : Rd w4 A4 (a.length + b.length) 1 (icells (a ++ b)) := by have := Rd.of_own own4; simpa [icells] using this
  have W4 : ∀ k, k < (a ++ b).length → Wt ((a ++ b).getD k 0) := by
    intro k hk
    by_cases h : k < a.length
    · have := WA.out k h
      rw [getD_at _ _ hk, List.getElem_append_left h]; rw [getD_at _ _ h] at this; exact this
    · have hk' : k - a.length < b.length := by simp at hk; omega
      have := WB.out (k - a.length) hk'
      rw [getD_at _ _ hk, List.getElem_append_right (by omega)]; rw [getD_at _ _ hk'] at this; exact this
  have ra4 : Rd w4 Aa a.length 1 (icells a) := ra.below bel4 rfl
  clear ra rb own3 g3 g4 _h3 _h4 bel3
  refine (Sum_ok _ (a ++ b) w4 (rd_ints r4) (by simp; omega) W4).mono ?_; rintro e w5 ⟨rfl, rfl⟩
  clear W4 own4 r4
  have PL := Lib.hid (plus_at w4 wa wb HM)
  generalize hm : leastOf a = m at *
  have HMa := Lib.hid hm; clear hm
  generalize leastOf b = m2 at *
  go_upto_block 0 with (go_at_call 19; refine PL.out.mono ?_; rintro e w6 ⟨rfl, b6⟩)
  have ra6 := ra4.below b6 rfl
  have belW : Below w.heap.size w w6 := (bel.trans (bel4.mono bel.size)).trans (b6.mono (by have := bel.size; have := bel4.size; omega))
  have HC := Lib.hid ra6.cell
  have rd := ra6.rdy
  have hle : ∀ x ∈ a, m ≤ x := by rw [← HMa.out]; exact (foldl_min_le a 1000000001).2
  have HLE := Lib.hid hle
  have hend : m ≠ 1000000001 → hadB a m a.length = true := by intro h; have := hadB_end a (by rw [HMa.out]; exact h); rwa [HMa.out] at this
  have HEND := Lib.hid hend
  clear hle hend ra4 ra6 bel4 bel b6 PL WA WB HM b1 b2 wa wb
  go_wp2_with fail
  go_loop [13, 14] (fun h i => ∃ k : Nat, k ≤ a.length ∧ i = .int .i64 k ∧ h = .bool (hadB a m k)) (fun _ i => a.length - (intOf i).toNat)
  case atStart => exact ⟨0, by omega, rfl, by simp [hadB]⟩
  case round =>
    obtain ⟨k, hk, rfl, rfl⟩ := hrel
    by_cases hlt : k < a.length
    · have hcell := HC.out k (by simpa using hlt)
      have hx := HLE.out a[k] (List.getElem_mem hlt)
      have HS := Lib.hid (hadB_snoc a m k hlt)
      simp only [List.getElem_map] at hcell
      generalize a[k] = x at *
      have hn : ¬ x < m := by omega
      cases hh : hadB a m k
      · rw [hh] at HS
        have HH := Lib.hid hh; clear hh
        go_wp2_with fail
        go_round
        case rel => exact ⟨k + 1, by omega, by go_num, by rw [HS.out]; rfl⟩
        case measure => simp [intOf]; omega
      · rw [hh] at HS
        have HH := Lib.hid hh; clear hh
        go_wp2_with fail
        go_round
        case rel => exact ⟨k + 1, by omega, by go_num, by rw [HS.out]; rfl⟩
        case measure => simp [intOf]; omega
    · have hk' : k = a.length := by omega
      subst hk'
      by_cases hm : m = 1000000001
      · have hmb : (m == 1000000001) = true := by simp [hm]
        cases hh : hadB a m a.length
        · have HH := Lib.hid hh; clear hh
          clear hm
          go_wp2_with fail
          go_ret
          exact ⟨rfl, belW⟩
        · have HH := Lib.hid hh; clear hh
          clear hm
          go_wp2_with fail
          go_ret
          exact ⟨rfl, belW⟩
      · have hh := HEND.out hm
        rw [hh]
        have HH := Lib.hid hh; clear hh
        clear hm
        go_wp2_with fail
        go_ret
        exact ⟨rfl, belW⟩
end Go.Proofs.Ytgepgokaodcpcaa.sumSplits
