/- container/heap: Push and Pop. -/
import Derived.Test.YtndajklppipckaaHeap
namespace Go.Proofs.Ytndajklppipckaa
open Go.RowKit

section
variable {α : Type} {T : TypeId} {pv : Value} {enc : α → Value} {lt : α → α → Bool} {St : World → List α → Prop} {key : α → Int}

theorem heap_snoc {l : List α} {x : α} (h : Heap key (l ++ [x]) l.length) : Heap key l l.length := by
  intro k hk h0 _
  have := h k (by simp; omega) h0 hk
  rw [List.getElem_append_left hk, List.getElem_append_left (show (k - 1) / 2 < l.length by omega)] at this
  exact this

set_option maxRecDepth 100000 in
set_option maxHeartbeats 4000000 in
theorem push_any (H : HeapI T pv enc lt St) (hlt : ∀ a b, lt a b = decide (key a < key b)) (W : World) (l : List α) (x : α) (hS : St W l) (hl : l.length + 1 ≤ 1000000) (hH : Heap key l l.length) :
    Calls Try.prog 55 #[.iface T pv, enc x] W fun e w' => e = .returned (.tuple #[]) ∧ ∃ l', St w' l' ∧ l'.Perm (l ++ [x]) ∧ Heap key l' l'.length := by
  obtain ⟨fL, hC1, HL⟩ := H.len
  obtain ⟨fP, hC2, HP⟩ := H.push
  obtain ⟨v1, m1, c1⟩ := HP W l hS hl x
  have C1 := Lib.hid c1
  have UP := Lib.hid (fun w' (h : St w' (l ++ [x])) => up_any H hlt w' (l ++ [x]) l.length h (by simp) (by simp; omega) (hH.push x))
  have HLN := Lib.hid (fun w' h => HL w' (l ++ [x]) h)
  clear c1 hH HL HP
  generalize enc x = xv at *
  go_enter Try.func55, Try.ntmps55
  go_wp2_with fail
  refine C1.out.mono ?_; rintro e w1 ⟨rfl, hS1⟩
  obtain ⟨v2, m2, c2⟩ := HLN.out w1 hS1
  have C2 := Lib.hid c2
  clear c2 hS1 m1
  have e1 : (((l ++ [x]).length : Nat) : Int) = (l.length : Int) + 1 := by simp
  rw [e1] at C2
  clear e1
  have hl2 : (l.length : Int) ≤ 1000000 := by omega
  go_wp2_with fail
  refine C2.out.mono ?_; rintro e w2 ⟨rfl, hS2⟩
  have U2 := Lib.hid (UP.out w2 hS2)
  clear m2 hS2
  go_wp2_with fail
  refine U2.out.mono ?_; rintro e w3 ⟨rfl, h3⟩
  have H3 := Lib.hid h3
  clear h3
  go_wp2_with fail
  go_end0
  exact ⟨rfl, H3.out⟩

set_option maxRecDepth 100000 in
set_option maxHeartbeats 4000000 in
theorem pop_any (H : HeapI T pv enc lt St) (hlt : ∀ a b, lt a b = decide (key a < key b)) (W : World) (l : List α) (hS : St W l) (hl : l.length ≤ 1000000) (h0 : 0 < l.length) (hH : Heap key l l.length) :
    Calls Try.prog 54 #[.iface T pv] W fun e w' => ∃ x l', e = .returned (enc x) ∧ St w' l' ∧ (x :: l').Perm l ∧ Heap key l' l'.length ∧ ∀ y ∈ l', key x ≤ key y := by
  obtain ⟨fL, hC1, HL⟩ := H.len
  obtain ⟨fS, hC2, HS⟩ := H.swap
  obtain ⟨fP, hC3, HP⟩ := H.pop
  obtain ⟨n, hn⟩ : ∃ n, l.length = n + 1 := ⟨l.length - 1, by omega⟩
  obtain ⟨v1, m1, c1⟩ := HL W l hS
  have hT := hH.take h0
  rw [show l.length - 1 = n by omega] at hT
  have hroot := hH.root
  rw [hn] at c1
  have e1 : (((n + 1 : Nat)) : Int) = (n : Int) + 1 := by simp
  rw [e1] at c1
  clear e1
  have C1 := Lib.hid c1
  have SW := Lib.hid (fun W h => HS W l h 0 n 0 n rfl rfl (by omega) (by omega))
  have HN := Lib.hid hn
  have hnb : (n : Int) ≤ 1000000 := by omega
  have DN := Lib.hid (fun w' (h : St w' (swapL l 0 n)) => down_any H hlt w' (swapL l 0 n) n h (by rw [swapL_len]; omega) (by rw [swapL_len]; omega) hT)
  have HPP := Lib.hid HP; have HR := Lib.hid hroot
  have SG : Hid ((swapL l 0 n)[n]? = l[0]?) := Lib.hid (by
    rw [List.getElem?_eq_getElem (by rw [swapL_len]; omega), swapL_get l 0 n n h0 (by omega) (by omega), if_pos rfl, List.getElem?_eq_getElem h0])
  have SP := Lib.hid (swapL_perm l 0 n h0 (by omega))
  have SL := Lib.hid (swapL_len l 0 n)
  clear c1 hn hT hH HL HS HP hroot hS
  go_enter Try.func54, Try.ntmps54
  go_wp2_with fail
  refine C1.out.mono ?_; rintro e w1 ⟨rfl, hS1⟩
  obtain ⟨v2, m2, c2⟩ := SW.out w1 hS1
  have C2 := Lib.hid c2
  clear m1 c2 hS1
  go_wp2_with fail
  refine C2.out.mono ?_; rintro e w2 ⟨rfl, hS2⟩
  have D2 := Lib.hid (DN.out w2 hS2)
  clear m2 hS2
  go_wp2_with fail
  refine D2.out.mono ?_; rintro e w3 ⟨⟨b, rfl⟩, l3, hS3, hP3, hL3, hH3, hK3⟩
  have hln : (swapL l 0 n).length = n + 1 := by rw [SL.out, HN.out]
  have hk := hK3 n (by omega) (Nat.le_refl _)
  rw [← List.getElem?_eq_getElem, SG.out, List.getElem?_eq_getElem h0] at hk
  obtain ⟨l4, x4, e4⟩ : ∃ l4 x4, l3 = l4 ++ [x4] := by
    rcases List.eq_nil_or_concat l3 with h | ⟨l4, x4, h⟩
    · rw [h] at hL3; simp at hL3; omega
    · exact ⟨l4, x4, by rw [h, List.concat_eq_append]⟩
  subst e4
  have hl4 : l4.length = n := by simp at hL3; omega
  have hx4 : x4 = l[0] := by
    rw [List.getElem?_append_right (by omega), hl4, Nat.sub_self] at hk
    simpa using hk
  obtain ⟨v5, m5, c5⟩ := HPP.out w3 l4 x4 hS3 (by have := HN.out; omega)
  have C5 := Lib.hid c5
  have hperm : (x4 :: l4).Perm l := ((List.perm_append_comm (l₁ := l4) (l₂ := [x4])).symm.trans hP3).trans SP.out
  have HPM := Lib.hid hperm
  have HH4 := Lib.hid (heap_snoc (by rw [hl4]; exact hH3))
  have HMIN : Hid (∀ y ∈ l4, key x4 ≤ key y) := Lib.hid (fun y hy => by
    have hm := hperm.mem_iff.1 (List.mem_cons_of_mem x4 hy)
    obtain ⟨k, hk, rfl⟩ := List.getElem_of_mem hm
    rw [hx4]; exact HR.out k hk)
  clear c5 hS3 hP3 hL3 hH3 hK3 hk hx4 hperm hl4 hln
  go_wp2_with fail
  refine C5.out.mono ?_; rintro e w6 ⟨rfl, hS6⟩
  have HS6 := Lib.hid hS6
  clear hS6 m5
  generalize hxv : enc x4 = xv at *
  have HXV := Lib.hid hxv
  clear hxv
  go_wp2_with fail
  go_ret
  exact ⟨x4, l4, by rw [HXV.out]; rfl, HS6.out, HPM.out, HH4.out, HMIN.out⟩
end
end Go.Proofs.Ytndajklppipckaa
