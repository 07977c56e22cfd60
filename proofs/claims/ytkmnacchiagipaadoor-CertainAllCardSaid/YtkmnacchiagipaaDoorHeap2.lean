/- container/heap: Push and Pop. -/
/- Methods found through a pointer in an interface value. -/
/- A heap in a box: what it holds, what keeps it. -/
import Derived.Test.YtkmnacchiagipaaDoorHeapPlain
import Derived.Test.YtkmnacchiagipaaDoorSlices
import Derived.Test.YtkmnacchiagipaaDoorMem
import Derived.WalkSmall
namespace Go.Proofs.YtkmnacchiagipaaDoor
open Go.RowKit

section
variable {α : Type} {T : TypeId} {pv : Value} {enc : α → Value} {lt : α → α → Bool} {St : World → List α → Prop} {key : α → Int}

theorem heap_snoc {l : List α} {x : α} (h : Heap key (l ++ [x]) l.length) : Heap key l l.length := by
  intro k hk h0 _
  have := h k (by simp; omega) h0 hk
  rw [List.getElem_append_left hk, List.getElem_append_left (show (k - 1) / 2 < l.length by omega)] at this
  exact this

set_option maxRecDepth 100000 in
set_option maxHeartbeats 4000000 in
theorem push_any (H : HeapI T pv enc lt St) (hlt : ∀ a b, lt a b = decide (key a < key b)) (W : World) (l : List α) (x : α) (hS : St W l) (hl : l.length + 1 ≤ 1000000) (hH : Heap key l l.length) :
    Calls Tryd.prog 98 #[.iface T pv, enc x] W fun e w' => e = .returned (.tuple #[]) ∧ ∃ l', St w' l' ∧ l'.Perm (l ++ [x]) ∧ Heap key l' l'.length := by
  obtain ⟨fL, hC1, HL⟩ := H.len
  obtain ⟨fP, hC2, HP⟩ := H.push
  obtain ⟨v1, m1, c1⟩ := HP W l hS hl x
  have C1 := Lib.hid c1
  have UP := Lib.hid (fun w' (h : St w' (l ++ [x])) => up_any H hlt w' (l ++ [x]) l.length h (by simp) (by simp; omega) (hH.push x))
  have HLN := Lib.hid (fun w' h => HL w' (l ++ [x]) h)
  clear c1 hH HL HP
  generalize enc x = xv at *
  go_enter Tryd.func98, Tryd.ntmps98
  go_wp2_with fail
  refine C1.out.mono ?_; rintro e w1 ⟨rfl, hS1⟩
  obtain ⟨v2, m2, c2⟩ := HLN.out w1 hS1
  have C2 := Lib.hid c2
  clear c2 hS1 m1
  have e1 : (((l ++ [x]).length : Nat) : Int) = (l.length : Int) + 1 := by simp
  rw [e1] at C2
  clear e1
  have hl2 : (l.length : Int) ≤ 1000000 := by omega
  go_wp2_with fail
  refine C2.out.mono ?_; rintro e w2 ⟨rfl, hS2⟩
  have U2 := Lib.hid (UP.out w2 hS2)
  clear m2 hS2
  go_wp2_with fail
  refine U2.out.mono ?_; rintro e w3 ⟨rfl, h3⟩
  have H3 := Lib.hid h3
  clear h3
  go_wp2_with fail
  go_end0
  exact ⟨rfl, H3.out⟩

set_option maxRecDepth 100000 in
set_option maxHeartbeats 4000000 in
theorem pop_any (H : HeapI T pv enc lt St) (hlt : ∀ a b, lt a b = decide (key a < key b)) (W : World) (l : List α) (hS : St W l) (hl : l.length ≤ 1000000) (h0 : 0 < l.length) (hH : Heap key l l.length) :
    Calls Tryd.prog 99 #[.iface T pv] W fun e w' => ∃ x l', e = .returned (enc x) ∧ St w' l' ∧ (x :: l').Perm l ∧ Heap key l' l'.length ∧ ∀ y ∈ l', key x ≤ key y := by
  obtain ⟨fL, hC1, HL⟩ := H.len
  obtain ⟨fS, hC2, HS⟩ := H.swap
  obtain ⟨fP, hC3, HP⟩ := H.pop
  obtain ⟨n, hn⟩ : ∃ n, l.length = n + 1 := ⟨l.length - 1, by omega⟩
  obtain ⟨v1, m1, c1⟩ := HL W l hS
  have hT := hH.take h0
  rw [show l.length - 1 = n by omega] at hT
  have hroot := hH.root
  rw [hn] at c1
  have e1 : (((n + 1 : Nat)) : Int) = (n : Int) + 1 := by simp
  rw [e1] at c1
  clear e1
  have C1 := Lib.hid c1
  have SW := Lib.hid (fun W h => HS W l h 0 n 0 n rfl rfl (by omega) (by omega))
  have HN := Lib.hid hn
  have hnb : (n : Int) ≤ 1000000 := by omega
  have DN := Lib.hid (fun w' (h : St w' (swapL l 0 n)) => down_any H hlt w' (swapL l 0 n) n h (by rw [swapL_len]; omega) (by rw [swapL_len]; omega) hT)
  have HPP := Lib.hid HP; have HR := Lib.hid hroot
  have SG : Hid ((swapL l 0 n)[n]? = l[0]?) := Lib.hid (by
    rw [List.getElem?_eq_getElem (by rw [swapL_len]; omega), swapL_get l 0 n n h0 (by omega) (by omega), if_pos rfl, List.getElem?_eq_getElem h0])
  have SP := Lib.hid (swapL_perm l 0 n h0 (by omega))
  have SL := Lib.hid (swapL_len l 0 n)
  clear c1 hn hT hH HL HS HP hroot hS
  go_enter Tryd.func99, Tryd.ntmps99
  go_wp2_with fail
  refine C1.out.mono ?_; rintro e w1 ⟨rfl, hS1⟩
  obtain ⟨v2, m2, c2⟩ := SW.out w1 hS1
  have C2 := Lib.hid c2
  clear m1 c2 hS1
  go_wp2_with fail
  refine C2.out.mono ?_; rintro e w2 ⟨rfl, hS2⟩
  have D2 := Lib.hid (DN.out w2 hS2)
  clear m2 hS2
  go_wp2_with fail
  refine D2.out.mono ?_; rintro e w3 ⟨⟨b, rfl⟩, l3, hS3, hP3, hL3, hH3, hK3⟩
  have hln : (swapL l 0 n).length = n + 1 := by rw [SL.out, HN.out]
  have hk := hK3 n (by omega) (Nat.le_refl _)
  rw [← List.getElem?_eq_getElem, SG.out, List.getElem?_eq_getElem h0] at hk
  obtain ⟨l4, x4, e4⟩ : ∃ l4 x4, l3 = l4 ++ [x4] := by
    rcases List.eq_nil_or_concat l3 with h | ⟨l4, x4, h⟩
    · rw [h] at hL3; simp at hL3; omega
    · exact ⟨l4, x4, by rw [h, List.concat_eq_append]⟩
  subst e4
  have hl4 : l4.length = n := by simp at hL3; omega
  have hx4 : x4 = l[0] := by
    rw [List.getElem?_append_right (by omega), hl4, Nat.sub_self] at hk
    simpa using hk
  obtain ⟨v5, m5, c5⟩ := HPP.out w3 l4 x4 hS3 (by have := HN.out; omega)
  have C5 := Lib.hid c5
  have hperm : (x4 :: l4).Perm l := ((List.perm_append_comm (l₁ := l4) (l₂ := [x4])).symm.trans hP3).trans SP.out
  have HPM := Lib.hid hperm
  have HH4 := Lib.hid (heap_snoc (by rw [hl4]; exact hH3))
  have HMIN : Hid (∀ y ∈ l4, key x4 ≤ key y) := Lib.hid (fun y hy => by
    have hm := hperm.mem_iff.1 (List.mem_cons_of_mem x4 hy)
    obtain ⟨k, hk, rfl⟩ := List.getElem_of_mem hm
    rw [hx4]; exact HR.out k hk)
  clear c5 hS3 hP3 hL3 hH3 hK3 hk hx4 hperm hl4 hln
  go_wp2_with fail
  refine C5.out.mono ?_; rintro e w6 ⟨rfl, hS6⟩
  have HS6 := Lib.hid hS6
  clear hS6 m5
  generalize hxv : enc x4 = xv at *
  have HXV := Lib.hid hxv
  clear hxv
  go_wp2_with fail
  go_ret
  exact ⟨x4, l4, by rw [HXV.out]; rfl, HS6.out, HPM.out, HH4.out, HMIN.out⟩
end
end Go.Proofs.YtkmnacchiagipaaDoor

namespace Go.Proofs.YtkmnacchiagipaaDoor
open Go.RowKit

theorem info_method {P : Program} {t : TypeId} {name : String} {f : FuncId} {pr : Bool} (h : (P.info? t).map (fun i => (i.methods.find? (·.name == name)).map (fun m => (m.path, m.func))) = some (some (#[], some (f, pr)))) : ∃ i m, P.info? t = some i ∧ i.methods.find? (·.name == name) = some m ∧ m.path = #[] ∧ m.func = some (f, pr) := by
  cases hi : P.info? t with
  | none => rw [hi] at h; cases h
  | some i =>
    rw [hi] at h
    simp only [Option.map_some, Option.some.injEq] at h
    cases hm : i.methods.find? (·.name == name) with
    | none => rw [hm] at h; cases h
    | some m =>
      rw [hm] at h
      simp only [Option.map_some, Option.some.injEq, Prod.mk.injEq] at h
      exact ⟨i, m, rfl, hm, h.1, h.2⟩
theorem run_wrapChk {P : Program} (w : World) (t u : TypeId) (a : Addr) (s m : ByteArray) : (Builtin.ssaWrapNilChk_ #[t] u #[.pointer (some a), .string s, .string m]).run P w = .ok (.pointer (some a)) w := rfl
/-- a method whose receiver is a value, through a pointer -/
theorem method_val {P : Program} {t el : TypeId} {name : String} {f : FuncId} (h : (P.info? t).map (fun i => (i.methods.find? (·.name == name)).map (fun m => (m.path, m.func))) = some (some (#[], some (f, false)))) (hu : P.underlying t = some (.pointer el))
    (fuel : Nat) {W : World} {a : Addr} {v : Value} (hl : (loadVar el a).run P W = .ok v W) : (method (fuel + 1) t (.pointer (some a)) name).run P W = .ok (f, v) W := by
  obtain ⟨i, m, h1, h2, h3, h4⟩ := info_method h
  rw [method]
  simp [typeInfo, h1, h2, h3, h4, follow, receiverAt, run_underlying hu]
  simp [Place.get, run_wrapChk, strVal, asAddr, hl]
/-- one whose receiver is the pointer -/
theorem method_ptr {P : Program} {t el : TypeId} {name : String} {f : FuncId} (h : (P.info? t).map (fun i => (i.methods.find? (·.name == name)).map (fun m => (m.path, m.func))) = some (some (#[], some (f, true)))) (hu : P.underlying t = some (.pointer el))
    (fuel : Nat) {W : World} {a : Addr} : (method (fuel + 1) t (.pointer (some a)) name).run P W = .ok (f, .pointer (some a)) W := by
  obtain ⟨i, m, h1, h2, h3, h4⟩ := info_method h
  rw [method]
  simp [typeInfo, h1, h2, h3, h4, follow, receiverAt, run_underlying hu]
  simp [Place.get]
end Go.Proofs.YtkmnacchiagipaaDoor

namespace Go.Proofs.YtkmnacchiagipaaDoor
open Go.RowKit

theorem row_ne_blk {w : World} {base : Nat} {e : TypeId} {size n : Nat} {v : Value} {xs : List Value} (h : w.ownsRow base e size v n xs) {b : Nat} {cs : Array Value} {t : TypeId} (hb : Blk w b cs t) (hne : e ≠ t) : v.ownBlock ≠ some b := by
  intro hh
  rcases h.2 with ⟨hv, _⟩ | ⟨g, cap, cur, hv, _, hg, _⟩
  · rw [hv] at hh; simp [Value.ownBlock] at hh
  · rw [hv] at hh; simp [Value.ownBlock] at hh
    subst hh
    unfold Blk at hb
    rw [hg] at hb
    simp at hb
    exact hne hb.2
section
variable {α : Type}
/-- box b holds a slice of the call's own whose elements are l; all else of W0 is as it was, but for row R0 -/
structure QSt (cs : α → List Value) (size : Nat) (qt e : TypeId) (base b : Nat) (W0 : World) (R0 : Option Nat) (W : World) (l : List α) : Prop where
  q : ∃ A c, Blk W b #[.slice A l.length c] qt ∧ W.ownsRow base e size (.slice A l.length c) l.length (l.flatMap cs) ∧ (∀ k, (Value.slice A l.length c).ownBlock = some k → R0 = some k ∨ W0.heap.size ≤ k)
  os : W.os = W0.os
  tape : W.tape = W0.tape
  output : W.output = W0.output
  size : W0.heap.size ≤ W.heap.size
  block : ∀ k, k < W0.heap.size → k ≠ b → R0 ≠ some k → W.heap[k]? = W0.heap[k]?
  bb : b < W0.heap.size
  hne : e ≠ qt
  hb : base ≤ W0.heap.size

variable {cs : α → List Value} {size : Nat} {qt e : TypeId} {base b : Nat} {W0 W W' : World} {R0 : Option Nat} {l : List α}
theorem QSt.start {A : Option Addr} {c : Nat} (h1 : Blk W b #[.slice A l.length c] qt) (h2 : W.ownsRow base e size (.slice A l.length c) l.length (l.flatMap cs)) (hne : e ≠ qt) (hb : base ≤ W.heap.size) :
    QSt cs size qt e base b W (Value.slice A l.length c).ownBlock W l := ⟨⟨A, c, h1, h2, fun _ hk => .inl hk⟩, rfl, rfl, rfl, Nat.le_refl _, fun _ _ _ _ => rfl, h1.lt, hne, hb⟩
theorem QSt.keep (h : QSt cs size qt e base b W0 R0 W l) (hb : Below W.heap.size W W') : QSt cs size qt e base b W0 R0 W' l := by
  obtain ⟨A, c, h1, h2, h3⟩ := h.q
  exact ⟨⟨A, c, h1.step hb, own_below h2 hb (Nat.le_refl _), h3⟩, hb.os.trans h.os, hb.tape.trans h.tape, hb.output.trans h.output, Nat.le_trans h.size hb.size,
    fun k hk hne hr => (hb.block k (Nat.lt_of_lt_of_le hk h.size)).trans (h.block k hk hne hr), h.bb, h.hne, h.hb⟩
/-- the row becomes another one -/
theorem QSt.row (h : QSt cs size qt e base b W0 R0 W l) {A : Option Addr} {c : Nat} (h1 : Blk W b #[.slice A l.length c] qt) (hg : W.grownBy W' (Value.slice A l.length c).ownBlock)
    {l' : List α} {c' : Nat} {A' : Option Addr} {n' : Nat} (hn : n' = l'.length) (h2 : W'.ownsRow base e size (.slice A' n' c') n' (l'.flatMap cs)) (hr : ∀ k, (Value.slice A' n' c').ownBlock = some k → (Value.slice A l.length c).ownBlock = some k ∨ W.heap.size ≤ k) :
    QSt cs size qt e base b W0 R0 (W'.setCell ⟨b, 0, none⟩ (.slice A' n' c')) l' := by
  subst hn
  obtain ⟨A1, c1, k1, k2, k3⟩ := h.q
  obtain ⟨rfl, rfl⟩ : A = A1 ∧ c = c1 := by
    have := k1.symm.trans h1
    simp at this
    exact ⟨this.1.symm, this.2.symm⟩
  have hbl : b < W.heap.size := h1.lt
  have hne : some b ≠ (Value.slice A l.length c).ownBlock := (row_ne_blk k2 h1 h.hne).symm
  have hne' : some b ≠ (Value.slice A' l'.length c').ownBlock := fun hh => by
    rcases hr b hh.symm with h4 | h4
    · exact hne h4.symm
    · omega
  refine ⟨⟨A', c', ((h1.grown hg hne).put 0 _).eq (by simp), own_setCell h2 (fun hh => hne' hh.symm) _, fun k hk => ?_⟩, hg.os.trans h.os, hg.tape.trans h.tape, hg.output.trans h.output, ?_, fun k hk hb hr0 => ?_, h.bb, h.hne, h.hb⟩
  · rcases hr k hk with h4 | h4
    · exact k3 k h4
    · right; have := h.size; omega
  · simp [World.setCell]; have := h.size; have := hg.size; omega
  · rw [Below.heap_setCell _ _ _ _ hb, hg.block k (Nat.lt_of_lt_of_le hk h.size) (fun hh => by
      rcases k3 k hh.symm with h4 | h4
      · exact hr0 h4
      · omega)]
    exact h.block k hk hb hr0
/-- the row's cells become others -/
theorem QSt.cells (h : QSt cs size qt e base b W0 R0 W l) {A : Option Addr} {c : Nat} (h1 : Blk W b #[.slice A l.length c] qt) (hg : W.grownBy W' (Value.slice A l.length c).ownBlock)
    {l' : List α} (hn : l.length = l'.length) (h2 : W'.ownsRow base e size (.slice A l.length c) l.length (l'.flatMap cs)) :
    QSt cs size qt e base b W0 R0 W' l' := by
  obtain ⟨A1, c1, k1, k2, k3⟩ := h.q
  obtain ⟨rfl, rfl⟩ : A = A1 ∧ c = c1 := by
    have := k1.symm.trans h1
    simp at this
    exact ⟨this.1.symm, this.2.symm⟩
  have hbl : b < W.heap.size := h1.lt
  have hne : some b ≠ (Value.slice A l.length c).ownBlock := (row_ne_blk k2 h1 h.hne).symm
  rw [hn] at h2 h1 hg k3 hne
  refine ⟨⟨A, c, h1.grown hg hne, h2, k3⟩, hg.os.trans h.os, hg.tape.trans h.tape, hg.output.trans h.output, Nat.le_trans h.size hg.size, fun k hk hb hr0 => ?_, h.bb, h.hne, h.hb⟩
  rw [hg.block k (Nat.lt_of_lt_of_le hk h.size) (fun hh => by
      rcases k3 k hh.symm with h4 | h4
      · exact hr0 h4
      · omega)]
  exact h.block k hk hb hr0
/-- a row that is not empty begins at the begin of its block -/
theorem QSt.addr (h : QSt cs size qt e base b W0 R0 W l) (h0 : 0 < l.length) : ∃ g c, Blk W b #[.slice (some ⟨g, 0, none⟩) l.length c] qt ∧ W.ownsRow base e size (.slice (some ⟨g, 0, none⟩) l.length c) l.length (l.flatMap cs) ∧ g < W.heap.size ∧ b ≠ g ∧ l.length ≤ c ∧ c ≤ maxLen := by
  obtain ⟨A, c, h1, h2, -⟩ := h.q
  rcases h2.2 with ⟨_, hn⟩ | ⟨g, cap, cur, hv, hbg, hg, hnc, hcm, hs, ht⟩
  · omega
  · simp at hv
    obtain ⟨rfl, rfl⟩ := hv
    exact ⟨g, c, h1, h2, (Array.getElem?_eq_some_iff.1 hg).1, fun e => row_ne_blk h2 h1 h.hne (by rw [e]; rfl), hnc, hcm⟩
end
end Go.Proofs.YtkmnacchiagipaaDoor
