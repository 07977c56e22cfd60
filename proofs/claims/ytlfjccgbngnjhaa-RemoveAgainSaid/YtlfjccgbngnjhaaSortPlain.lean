/- Arcs in order (plain): arrange's keys, sorting, merging. -/
import Derived.Test.YtlfjccgbngnjhaaCmp
import Derived.Shelf.SlSortCmp.NoneTotal
namespace Go.Proofs.Ytlfjccgbngnjhaa
open Go.RowKit

/-- two keys, place by place -/
def lexL (xs ys : List Int) : Int := firstOf (List.zipWith cmp3 xs ys)

theorem cmp3_zero {a b : Int} (h : cmp3 a b = 0) : a = b := by unfold cmp3 at h; split at h <;> (try split at h) <;> omega
theorem cmp3_self (a : Int) : cmp3 a a = 0 := by unfold cmp3; rw [if_neg (by omega), if_neg (by omega)]
theorem cmp3_neg {a b : Int} : cmp3 a b < 0 ↔ a < b := by
  unfold cmp3
  by_cases h : a < b
  · rw [if_pos h]; constructor <;> intro <;> omega
  · rw [if_neg h]
    by_cases h2 : b < a
    · rw [if_pos h2]; constructor <;> intro <;> omega
    · rw [if_neg h2]; constructor <;> intro <;> omega
theorem cmp3_anti (a b : Int) : cmp3 a b = - cmp3 b a := by unfold cmp3; split <;> (try split) <;> (try split) <;> omega

theorem lexL_self (xs : List Int) : lexL xs xs = 0 := by
  induction xs with
  | nil => rfl
  | cons a xs ih => simp only [lexL, List.zipWith_cons_cons, firstOf, cmp3_self, if_true]; exact ih
theorem lexL_cons (a b : Int) (xs ys : List Int) : lexL (a :: xs) (b :: ys) = if cmp3 a b = 0 then lexL xs ys else cmp3 a b := rfl
theorem lexL_anti : ∀ (xs ys : List Int), lexL xs ys = - lexL ys xs
  | [], [] => rfl
  | [], _ :: _ => rfl
  | _ :: _, [] => rfl
  | a :: xs, b :: ys => by
    rw [lexL_cons, lexL_cons, cmp3_anti a b, lexL_anti xs ys]
    split <;> rename_i h
    · rw [if_pos (by omega)]
    · rw [if_neg (by omega)]
theorem lexL_zero : ∀ (xs ys : List Int), xs.length = ys.length → lexL xs ys = 0 → xs = ys
  | [], [], _, _ => rfl
  | [], _ :: _, h, _ => by simp at h
  | _ :: _, [], h, _ => by simp at h
  | a :: xs, b :: ys, h, hz => by
    rw [lexL_cons] at hz
    split at hz <;> rename_i h0
    · rw [cmp3_zero h0, lexL_zero xs ys (by simpa using h) hz]
    · omega
theorem lexL_trans : ∀ (xs ys zs : List Int), xs.length = ys.length → ys.length = zs.length → lexL xs ys ≤ 0 → lexL ys zs ≤ 0 → lexL xs zs ≤ 0
  | [], [], [], _, _, _, _ => by decide
  | [], _ :: _, _, h, _, _, _ => by simp at h
  | _ :: _, [], _, h, _, _, _ => by simp at h
  | _, [], _ :: _, _, h, _, _ => by simp at h
  | _, _ :: _, [], _, h, _, _ => by simp at h
  | a :: xs, b :: ys, c :: zs, h1, h2, p, q => by
    rw [lexL_cons] at p q ⊢
    have ih := lexL_trans xs ys zs (by simpa using h1) (by simpa using h2)
    have ab := @cmp3_neg a b; have bc := @cmp3_neg b c; have ac := @cmp3_neg a c
    split at p <;> rename_i h0
    · have e := cmp3_zero h0; subst e
      split at q <;> rename_i h3
      · rw [if_pos h3]; exact ih p q
      · rw [if_neg h3]; exact q
    · have l1 : a < b := ab.1 (by omega)
      split at q <;> rename_i h3
      · have e := cmp3_zero h3; subst e; rw [if_neg h0]; exact p
      · have l2 : b < c := bc.1 (by omega)
        have l3 := ac.2 (by omega)
        rw [if_neg (by omega)]; omega

/-- what arcs are ordered by -/
def readKy (a : ArcL) : List Int := [a.inn, a.out, a.to, a.wt]
def writeKy (a : ArcL) : List Int := [a.out, a.inn, a.to, a.wt]
/-- a key of four numbers that tells arcs apart -/
structure ArcKey (k : ArcL → List Int) : Prop where
  len : ∀ a, (k a).length = 4
  inj : ∀ a b, k a = k b → a = b
theorem readKy_ok : ArcKey readKy := ⟨fun _ => rfl, fun a b h => by cases a; cases b; simp [readKy] at h; simp [h]⟩
theorem writeKy_ok : ArcKey writeKy := ⟨fun _ => rfl, fun a b h => by cases a; cases b; simp [writeKy] at h; simp [h]⟩
def ordK (k : ArcL → List Int) (a b : ArcL) : Int := lexL (k a) (k b)
theorem ordK_read (a b : ArcL) : ordK readKy a b = ordA a b := rfl
theorem ordK_trans {k : ArcL → List Int} (h : ArcKey k) {a b c : ArcL} (p : ordK k a b ≤ 0) (q : ordK k b c ≤ 0) : ordK k a c ≤ 0 :=
  lexL_trans _ _ _ (by rw [h.len, h.len]) (by rw [h.len, h.len]) p q
theorem ordK_anti (k : ArcL → List Int) (a b : ArcL) : ordK k a b = - ordK k b a := lexL_anti _ _
theorem ordK_zero {k : ArcL → List Int} (h : ArcKey k) {a b : ArcL} (p : ordK k a b = 0) : a = b := h.inj _ _ (lexL_zero _ _ (by rw [h.len, h.len]) p)

theorem swo_ordK {k : ArcL → List Int} (h : ArcKey k) : Go.Sort.SWO (ltOf (ordK k)) where
  irrefl x := by simp [ltOf, ordK, lexL_self]
  trans x y z p q := by
    simp only [ltOf, decide_eq_true_eq] at *
    have r := ordK_trans h (show ordK k x y ≤ 0 by omega) (show ordK k y z ≤ 0 by omega)
    rcases Int.lt_or_eq_of_le r with r | r
    · exact r
    · have e := ordK_zero h r; subst e
      have := ordK_anti k x y; omega
  ntrans x y z p q := by
    simp only [ltOf, decide_eq_false_iff_not] at *
    have a1 := ordK_anti k x y; have a2 := ordK_anti k y z; have a3 := ordK_anti k x z
    have r := ordK_trans h (show ordK k z y ≤ 0 by omega) (show ordK k y x ≤ 0 by omega)
    omega
theorem tot_ordK {k : ArcL → List Int} (h : ArcKey k) (x y : ArcL) (p : ltOf (ordK k) x y = false) (q : ltOf (ordK k) y x = false) : x = y := by
  simp only [ltOf, decide_eq_false_iff_not] at *
  have := ordK_anti k x y
  exact ordK_zero h (by omega)

/-- arcs in order -/
def leK (k : ArcL → List Int) (x y : ArcL) : Bool := !(ltOf (ordK k) y x)
def sortK (k : ArcL → List Int) (l : List ArcL) : List ArcL := l.mergeSort (leK k)
theorem leK_iff (k : ArcL → List Int) (x y : ArcL) : leK k x y = true ↔ ordK k x y ≤ 0 := by
  have := ordK_anti k x y
  simp only [leK, ltOf, Bool.not_eq_true', decide_eq_false_iff_not]; omega
theorem sortK_perm (k : ArcL → List Int) (l : List ArcL) : (sortK k l).Perm l := List.mergeSort_perm _ _
theorem sortK_len (k : ArcL → List Int) (l : List ArcL) : (sortK k l).length = l.length := (sortK_perm k l).length_eq
theorem sortK_mem (k : ArcL → List Int) (l : List ArcL) (a : ArcL) : a ∈ sortK k l ↔ a ∈ l := (sortK_perm k l).mem_iff
theorem sortK_sorted {k : ArcL → List Int} (h : ArcKey k) (l : List ArcL) : (sortK k l).Pairwise fun x y => ordK k x y ≤ 0 := by
  have := List.pairwise_mergeSort (le := leK k) (fun a b c p q => by rw [leK_iff] at *; exact ordK_trans h p q) (fun a b => by
    have := ordK_anti k a b
    rcases Int.le_total (ordK k a b) 0 with p | p
    · rw [(leK_iff k a b).2 p]; rfl
    · rw [(leK_iff k b a).2 (by omega)]; simp) l
  exact this.imp fun h => (leK_iff _ _ _).1 h
theorem sortK_self {k : ArcL → List Int} {l : List ArcL} (h : l.Pairwise fun x y => ordK k x y ≤ 0) : sortK k l = l :=
  List.mergeSort_of_pairwise (h.imp fun h => (leK_iff _ _ _).2 h)
theorem sortK_again {k : ArcL → List Int} (h : ArcKey k) (l : List ArcL) : sortK k (sortK k l) = sortK k l := sortK_self (sortK_sorted h l)
theorem sortK_nil (k : ArcL → List Int) : sortK k [] = [] := by simp [sortK]


/-- alike but for the weight -/
def alike3 (a b : ArcL) : Bool := a.inn == b.inn && a.out == b.out && a.to == b.to
theorem alike3_iff {a b : ArcL} : alike3 a b = true ↔ a.inn = b.inn ∧ a.out = b.out ∧ a.to = b.to := by simp [alike3, and_assoc]
/-- ahead of, the weight apart -/
def lt3 (a b : ArcL) : Prop := lexL [a.inn, a.out, a.to] [b.inn, b.out, b.to] < 0
theorem lt3_trans {a b c : ArcL} (p : lt3 a b) (q : lt3 b c) : lt3 a c := by
  unfold lt3 at *
  have r := lexL_trans [a.inn, a.out, a.to] [b.inn, b.out, b.to] [c.inn, c.out, c.to] rfl rfl (by omega) (by omega)
  rcases Int.lt_or_eq_of_le r with r | r
  · exact r
  · have e := lexL_zero _ _ (by rfl) r
    rw [e] at p
    have := lexL_anti [c.inn, c.out, c.to] [b.inn, b.out, b.to]
    omega
theorem lt3_not {a b : ArcL} (p : lt3 a b) : alike3 b a = false := by
  unfold lt3 at p
  cases h : alike3 b a with
  | false => rfl
  | true =>
    obtain ⟨h1, h2, h3⟩ := alike3_iff.1 h
    rw [h1, h2, h3, lexL_self] at p; omega
theorem alike3_lt {a b c : ArcL} (h : alike3 a b = true) (p : lt3 a c) : lt3 b c := by
  obtain ⟨h1, h2, h3⟩ := alike3_iff.1 h
  unfold lt3 at *; rw [← h1, ← h2, ← h3]; exact p
theorem ord_lt3 {a b : ArcL} (h : ordK readKy a b ≤ 0) (hn : alike3 b a = false) : lt3 a b := by
  unfold lt3
  simp only [ordK, readKy, lexL_cons] at *
  have e : lexL [] [] = 0 := rfl
  rw [e]
  by_cases h1 : cmp3 a.inn b.inn = 0
  · rw [if_pos h1] at h ⊢
    by_cases h2 : cmp3 a.out b.out = 0
    · rw [if_pos h2] at h ⊢
      by_cases h3 : cmp3 a.to b.to = 0
      · rw [alike3_iff.2 ⟨(cmp3_zero h1).symm, (cmp3_zero h2).symm, (cmp3_zero h3).symm⟩] at hn; cases hn
      · rw [if_neg h3] at h ⊢; omega
    · rw [if_neg h2] at h ⊢; omega
  · rw [if_neg h1] at h ⊢; omega
theorem ord_wt {a b : ArcL} (h : ordK readKy a b ≤ 0) (hn : alike3 b a = true) : a.wt ≤ b.wt := by
  obtain ⟨h1, h2, h3⟩ := alike3_iff.1 hn
  simp only [ordK, readKy, lexL_cons] at h
  rw [h1, h2, h3, cmp3_self, cmp3_self, cmp3_self] at h
  simp only [if_true] at h
  have := @cmp3_neg b.wt a.wt
  have := cmp3_anti a.wt b.wt
  by_cases h4 : cmp3 a.wt b.wt = 0
  · have := cmp3_zero h4; omega
  · rw [if_neg h4] at h; omega

/-- of arcs in a row that are alike but for the weight the first; p: the arc before -/
def compF (p : ArcL) : List ArcL → List ArcL
  | [] => []
  | b :: l => if alike3 b p = true then compF b l else b :: compF b l
def compL : List ArcL → List ArcL
  | [] => []
  | a :: l => a :: compF a l
def mergeL (l : List ArcL) : List ArcL := compL (sortK readKy l)

theorem compF_sub : ∀ (l : List ArcL) (p : ArcL), (compF p l).Sublist l
  | [], _ => .slnil
  | b :: l, p => by
    unfold compF
    split
    · exact (compF_sub l b).cons _
    · exact (compF_sub l b).cons_cons _
theorem compL_sub : ∀ (l : List ArcL), (compL l).Sublist l
  | [] => .slnil
  | a :: l => (compF_sub l a).cons_cons _
theorem compF_lt : ∀ (l : List ArcL) (p : ArcL), ((p :: l).Pairwise fun x y => ordK readKy x y ≤ 0) → (∀ x ∈ compF p l, lt3 p x) ∧ (compF p l).Pairwise lt3
  | [], _, _ => ⟨fun x hx => by simp [compF] at hx, by simp [compF]⟩
  | b :: l, p, h => by
    obtain ⟨h1, h2⟩ := List.pairwise_cons.1 h
    obtain ⟨i1, i2⟩ := compF_lt l b h2
    have hb := h1 b (by simp)
    unfold compF
    cases ha : alike3 b p with
    | true => rw [if_pos rfl]; exact ⟨fun x hx => alike3_lt ha (i1 x hx), i2⟩
    | false =>
      rw [if_neg (by simp)]
      have hl := ord_lt3 hb ha
      refine ⟨fun x hx => ?_, List.pairwise_cons.2 ⟨i1, i2⟩⟩
      rcases List.mem_cons.1 hx with rfl | hx
      · exact hl
      · exact lt3_trans hl (i1 x hx)
theorem compL_lt {l : List ArcL} (h : l.Pairwise fun x y => ordK readKy x y ≤ 0) : (compL l).Pairwise lt3 := by
  cases l with
  | nil => simp [compL]
  | cons a l => exact List.pairwise_cons.2 (compF_lt l a h)
theorem alike3_symm {a b : ArcL} (h : alike3 a b = true) : alike3 b a = true := by
  obtain ⟨h1, h2, h3⟩ := alike3_iff.1 h; exact alike3_iff.2 ⟨h1.symm, h2.symm, h3.symm⟩
theorem alike3_trans {a b c : ArcL} (h : alike3 a b = true) (k : alike3 b c = true) : alike3 a c = true := by
  obtain ⟨h1, h2, h3⟩ := alike3_iff.1 h; obtain ⟨k1, k2, k3⟩ := alike3_iff.1 k; exact alike3_iff.2 ⟨h1.trans k1, h2.trans k2, h3.trans k3⟩
theorem alike3_self (a : ArcL) : alike3 a a = true := alike3_iff.2 ⟨rfl, rfl, rfl⟩
theorem compF_light : ∀ (l : List ArcL) (p : ArcL), ((p :: l).Pairwise fun x y => ordK readKy x y ≤ 0) → ∀ x ∈ l, alike3 x p = true ∨ ∃ b ∈ compF p l, alike3 x b = true ∧ b.wt ≤ x.wt
  | [], _, _, _, hx => by simp at hx
  | b :: l, p, h, x, hx => by
    obtain ⟨h1, h2⟩ := List.pairwise_cons.1 h
    have h3 := (List.pairwise_cons.1 h2).1
    have key : alike3 x b = true ∧ b.wt ≤ x.wt ∨ ∃ c ∈ compF b l, alike3 x c = true ∧ c.wt ≤ x.wt := by
      rcases List.mem_cons.1 hx with rfl | hx
      · exact .inl ⟨alike3_self _, Int.le_refl _⟩
      · rcases compF_light l b h2 x hx with k | k
        · exact .inl ⟨k, ord_wt (h3 x hx) k⟩
        · exact .inr k
    unfold compF
    cases ha : alike3 b p with
    | true =>
      rw [if_pos rfl]
      rcases key with k | k
      · exact .inl (alike3_trans k.1 ha)
      · exact .inr k
    | false =>
      rw [if_neg (by simp)]
      rcases key with k | ⟨c, k1, k2⟩
      · exact .inr ⟨b, by simp, k⟩
      · exact .inr ⟨c, List.mem_cons_of_mem _ k1, k2⟩
theorem compL_light {l : List ArcL} (h : l.Pairwise fun x y => ordK readKy x y ≤ 0) : ∀ x ∈ l, ∃ b ∈ compL l, alike3 x b = true ∧ b.wt ≤ x.wt := by
  cases l with
  | nil => intro x hx; simp at hx
  | cons a l =>
    intro x hx
    have h1 := (List.pairwise_cons.1 h).1
    rcases List.mem_cons.1 hx with rfl | hx
    · exact ⟨x, by simp [compL], alike3_self _, Int.le_refl _⟩
    · rcases compF_light l a h x hx with k | ⟨b, k1, k2⟩
      · exact ⟨a, by simp [compL], k, ord_wt (h1 x hx) k⟩
      · exact ⟨b, List.mem_cons_of_mem _ k1, k2⟩
theorem mergeL_mem {l : List ArcL} {a : ArcL} (h : a ∈ mergeL l) : a ∈ l := (sortK_mem readKy l a).1 ((compL_sub _).subset h)
theorem mergeL_len (l : List ArcL) : (mergeL l).length ≤ l.length := by rw [← sortK_len readKy l]; exact (compL_sub _).length_le
theorem mergeL_lt (l : List ArcL) : (mergeL l).Pairwise lt3 := compL_lt (sortK_sorted readKy_ok l)
theorem mergeL_light {l : List ArcL} {x : ArcL} (h : x ∈ l) : ∃ b ∈ mergeL l, alike3 x b = true ∧ b.wt ≤ x.wt := compL_light (sortK_sorted readKy_ok l) x ((sortK_mem readKy l x).2 h)
theorem mergeL_sorted (l : List ArcL) : (mergeL l).Pairwise fun x y => ordK readKy x y ≤ 0 := (sortK_sorted readKy_ok l).sublist (compL_sub _)
theorem mergeL_nil : mergeL [] = [] := by simp [mergeL, sortK_nil, compL]
end Go.Proofs.Ytlfjccgbngnjhaa
