/- The walk of NamesBack: a table's text reads as the table. -/
import Derived.Test.YtajbfhdkghofbaaDoorNamesRead
import Derived.BigQuiet
namespace Go.Proofs.YtajbfhdkghofbaaDoor
open Go.RowKit

theorem idx1 (c : UInt8) : ∀ s : List UInt8, Lib.index s [c] = Lib.indexByte s c := by
  intro s
  induction s with
  | nil => rfl
  | cons b l ih =>
    unfold Lib.index Lib.indexByte
    rw [ih]
    by_cases h : b = c
    · subst h; simp [List.isPrefixOf]
    · have : ([c].isPrefixOf (b :: l)) = false := by simp [List.isPrefixOf]; exact fun e => h e.symm
      simp [this, h]
theorem idx_at (c : UInt8) (l r : List UInt8) (h : c ∉ l) : Lib.indexByte (l ++ c :: r) c = l.length := by
  induction l with
  | nil => simp [Lib.indexByte]
  | cons b l ih =>
    have hc : b ≠ c := fun e => h (by simp [e])
    have := ih (fun hm => h (by simp [hm]))
    simp only [List.cons_append, Lib.indexByte, this]
    rw [if_neg (by simpa using hc), if_neg (by simp <;> omega)]
    simp
theorem cut_at (l r : List UInt8) (h : (32 : UInt8) ∉ l) : Lib.cut (l ++ 32 :: r) [32] = (l, r, true) := by
  unfold Lib.cut
  rw [idx1, idx_at 32 l r h, if_pos (by omega)]
  simp
theorem word_noSp {t : Str} (h : WordOk t) : ∀ b ∈ t, b ≠ 32 ∧ b ≠ 10 := fun b hb => by
  obtain ⟨i, hi, rfl⟩ := List.getElem_of_mem hb
  have := h.2.2 i hi
  unfold wordC wordV at this
  exact ⟨fun e => by rw [e] at this; simp at this, fun e => by rw [e] at this; simp at this⟩
theorem dec_noS (n : Nat) : ∀ b ∈ Lib.decDigits n, b ≠ 32 ∧ b ≠ 10 := fun b hb => by
  have := dec_digs n b hb
  unfold IsDig at this
  exact ⟨fun e => by subst e; revert this; decide, fun e => by subst e; revert this; decide⟩
theorem nameT_line {n : NameL} (h : WordOk n.text) (r : List UInt8) : linesL (nameT n ++ r) = nameT n :: linesL r := by
  have h10 : (10 : UInt8) ∉ n.text ++ [32] ++ Lib.decDigits n.label.toNat := fun hm => by
    simp only [List.mem_append, List.mem_singleton] at hm
    rcases hm with (hm | hm) | hm
    · exact (word_noSp h _ hm).2 rfl
    · exact absurd hm (by decide)
    · exact (dec_noS _ _ hm).2 rfl
  exact linesL_line _ r h10
theorem names_lines : ∀ l : List NameL, (∀ n ∈ l, WordOk n.text) → linesL (namesT l) = l.map nameT
  | [], _ => rfl
  | n :: l, h => by
    unfold namesT
    rw [List.flatMap_cons, nameT_line (h n (by simp))]
    have := names_lines l fun x hx => h x (by simp [hx])
    unfold namesT at this
    rw [this]; rfl
theorem name_of {n n' : NameL} (h : WordOk n.text) (h1 : 1 ≤ n.label ∧ n.label ≤ 1000) (k : NameOf (nameT n) n') : n' = n := by
  have hc : Lib.cut (nameT n) [32] = (n.text, Lib.decDigits n.label.toNat ++ [10], true) := by
    have := cut_at n.text (Lib.decDigits n.label.toNat ++ [10]) (fun hm => (word_noSp h _ hm).1 rfl)
    unfold nameT
    simpa using this
  obtain ⟨k1, ev, k2⟩ := k
  rw [hc] at k1 k2
  have hs : Lib.trimSuffix (Lib.decDigits n.label.toNat ++ [10]) [10] = Lib.decDigits n.label.toNat := by
    unfold Lib.trimSuffix Lib.hasSuffix
    rw [if_pos (by simp)]
    rw [show (Lib.decDigits n.label.toNat ++ [(10 : UInt8)]).length - [(10 : UInt8)].length = (Lib.decDigits n.label.toNat).length by simp, List.take_left]
  simp only at k1 k2
  rw [hs] at k2
  have hl := dec_10 (n := n.label) (by omega)
  have h2 : n'.label = n.label := by
    rcases k2 with ⟨_, k2⟩ | ⟨_, k2⟩
    · have := k2 (by omega)
      rw [atoi_dec] at this
      have := Option.some.inj this
      omega
    · have := k2 (by omega)
      rw [atoi_dec] at this; cases this
  cases n; cases n'; simp only at k1 h2; rw [k1, h2]
theorem names_back {l l' : List NameL} (h : NamesOk l) (k : NamesOf (linesL (namesT l)) l') : l' = l := by
  rw [names_lines l h.word] at k
  obtain ⟨k1, k2⟩ := k
  rw [List.length_map] at k1
  apply List.ext_getElem k1
  intro i h1 h2
  have := k2 i (by simpa using h2) h1
  rw [List.getElem_map] at this
  exact name_of (h.word _ (List.getElem_mem h2)) (h.lab _ (List.getElem_mem h2)) this
namespace namesBack
set_option maxRecDepth 100000 in
set_option maxHeartbeats 4000000 in
theorem walk {w : World} (ht : TextW w) (A0 : Option Addr) (n0 c0 : Nat) (xs : List Int) (hx : IntArg w A0 n0 xs) :
    Calls Tryd.prog 6 #[.slice A0 n0 c0] w fun e w' => e = .returned (.bool true) ∧ Below w.heap.size w w' := by
  have HTB := Lib.hid (table_names A0 n0 c0 xs w hx)
  have hok := tab_ok xs
  generalize tabL xs = l at *
  have h100 := hok.len
  have HOK := Lib.hid hok; have HT := Lib.hid ht
  have hlT : (namesT l).length ≤ 3000 := by have := namesT_len hok l.length; rwa [List.take_length] at this
  have HLT := Lib.hid hlT
  clear hx hok ht hlT
  go_enter Tryd.func6, Tryd.ntmps6
  go_wp2_with fail
  refine HTB.out.mono ?_; rintro e w1 ⟨v, rfl, hO1, b1⟩
  obtain ⟨A, c, rfl, -, -⟩ := own_form hO1
  have HN := Lib.hid (NamesAt.of_own hO1)
  have CH : Hid (Calls Tryd.prog 21 #[.slice A l.length c] w1 fun e w' => e = .returned (.int .i64 0) ∧ Below w1.heap.size w1 w') := Lib.hid ((NCheck_any A l c w1 HN.out).mono fun e w' ⟨er, h1, h2, h3⟩ => ⟨by rw [h1, h2.1.2 HOK.out], h3⟩)
  clear hO1 HTB
  go_wp2_with fail
  refine CH.out.mono ?_; rintro e w2 ⟨rfl, b2⟩
  have c2 := b1.trans (b2.mono b1.size)
  have HN2 := Lib.hid (HN.out.below b2 (Nat.le_refl _))
  clear CH
  go_wp2_with fail
  refine (names_ok A l c w2 HN2.out HOK.out (HT.out.below c2).tab).mono ?_; rintro e w3 ⟨rfl, b3⟩
  have c3 := c2.trans (b3.mono c2.size)
  have HN3 := Lib.hid (HN2.out.below b3 (Nat.le_refl _))
  go_wp2_with fail
  refine (names_read ⟨(namesT l).toArray⟩ w3 (HT.out.below c3)).mono ?_; rintro e w4 ⟨hr, b4⟩
  have c4 := c3.trans (b4.mono c3.size)
  have HN4 := Lib.hid (HN3.out.below b4 (Nat.le_refl _))
  have ed : (⟨(namesT l).toArray⟩ : ByteArray).data.toList = namesT l := rfl
  rw [ed] at hr
  rcases hr.symm with ⟨hbad, -⟩ | ⟨v, l', hof, -, -, rfl, ho⟩
  · exfalso
    rcases hbad with h | ⟨l', hof, h⟩
    · have := HLT.out; omega
    · have := names_back HOK.out hof
      rw [this] at h
      exact h ⟨HOK.out, rfl⟩
  rw [names_back HOK.out hof] at ho
  obtain ⟨A', c', rfl, -, -⟩ := own_form ho
  have HM := Lib.hid (NamesAt.of_own ho)
  have rd := HN4.out.rdy; have rd' := HM.out.rdy
  clear hof ho ed HN HN2 HN3 hr
  go_wp2_with fail
  go_loopw [9] (fun qv wr => ∃ (q : Nat), q ≤ l.length ∧ qv = .int .i64 q ∧ Below w4.heap.size w4 wr) (fun qv _ => l.length - (intOf qv).toNat)
  case atStart => exact ⟨0, by omega, rfl, Below.refl _ _⟩
  case round =>
    obtain ⟨q, hq, rfl, bel⟩ := hrel
    have i0 : (0 : Int) ≤ ↑q := by omega
    by_cases hlt : q < l.length
    · have i1 : (↑q : Int) < ↑l.length := by omega
      have a0 := (HN4.out.below bel (Nat.le_refl _)).c0 q hlt; have a1 := (HN4.out.below bel (Nat.le_refl _)).c1 q hlt
      have d0 := (HM.out.below bel (Nat.le_refl _)).c0 q hlt; have d1 := (HM.out.below bel (Nat.le_refl _)).c1 q hlt
      generalize l[q] = nm at *
      unfold strV at a0 d0
      have lA := World.block_lt_of_cell? _ _ a0; have lD := World.block_lt_of_cell? _ _ d0
      go_wp2_with fail
      go_region
      all_goals
        go_wp2_with fail
        go_roundw
        case rel => exact ⟨q + 1, by omega, by go_num, by first | exact bel | exact bel.drew⟩
        case measure => simp [intOf]; omega
    · obtain rfl : q = l.length := by omega
      have i1 : ¬ (↑l.length : Int) < ↑l.length := by omega
      go_wp2_with fail
      go_ret
      exact ⟨rfl, c4.trans (bel.mono c4.size)⟩
end namesBack
end Go.Proofs.YtajbfhdkghofbaaDoor
