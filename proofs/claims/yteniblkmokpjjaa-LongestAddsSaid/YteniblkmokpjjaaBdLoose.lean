/- rational's builder: loose; both. -/
import Derived.Test.YteniblkmokpjjaaBdAdd
namespace Go.Proofs.Yteniblkmokpjjaa
open Go.RowKit

def looseS (tt : Int) (s : StateL) : StateL := ⟨1000000001, s.arcs ++ if s.final = 1000000001 ∨ tt < 0 then [] else [⟨0, 0, s.final, tt⟩]⟩
def looseN (ss : List StateL) (f k : Nat) (tt : Int) : List StateL := ss.mapIdx fun i s => if f ≤ i ∧ i < f + k then looseS tt s else s
theorem looseN_len (ss : List StateL) (f k : Nat) (tt : Int) : (looseN ss f k tt).length = ss.length := by simp [looseN]
theorem looseN_zero (ss : List StateL) (f : Nat) (tt : Int) : looseN ss f 0 tt = ss := by
  apply List.ext_getElem?
  intro i
  simp only [looseN, List.getElem?_mapIdx]
  cases ss[i]? with
  | none => rfl
  | some s => simp; omega
theorem looseN_get (ss : List StateL) (f k : Nat) (tt : Int) (i : Nat) (hi : i < ss.length) : (looseN ss f k tt)[i]'(by rw [looseN_len]; exact hi) = if f ≤ i ∧ i < f + k then looseS tt ss[i] else ss[i] := by
  simp [looseN]
theorem looseN_succ (ss : List StateL) (f k : Nat) (tt : Int) (h : f + k < ss.length) : looseN ss f (k + 1) tt = (looseN ss f k tt).set (f + k) (looseS tt ss[f + k]) := by
  apply List.ext_getElem
  · simp [looseN]
  · intro i h1 h2
    rw [looseN_len] at h1
    rw [looseN_get _ _ _ _ i h1]
    by_cases e : f + k = i
    · subst e
      rw [List.getElem_set_self, if_pos (by omega)]
    · rw [List.getElem_set_ne e, looseN_get _ _ _ _ i h1]
      by_cases e2 : f ≤ i ∧ i < f + k
      · rw [if_pos e2, if_pos (by omega)]
      · rw [if_neg e2, if_neg (by omega)]
theorem set_eta {α : Type} (l : List α) (q : Nat) (h : q < l.length) (x : α) (e : l[q] = x) : l.set q x = l := by subst e; simp

set_option maxRecDepth 100000 in
set_option maxHeartbeats 8000000 in
theorem loose_any (b : Nat) (W : World) (st : Int) (sv : Value) (vs : List Value) (ss : List StateL) (h : BD b W st sv vs ss) (f k : Nat) (tt : Int) (hf : f + k ≤ ss.length) (hn : ss.length ≤ 1000) (hl : ∀ s ∈ ss, s.arcs.length ≤ 1000) :
    Calls Try.prog 50 #[.pointer (some ⟨b, 0, none⟩), .int .i64 f, .int .i64 k, .int .i64 tt] W fun e w' => e = .returned (.tuple #[]) ∧ ∃ sv' vs', BD b w' st sv' vs' (looseN ss f k tt) ∧ BF b W w' := by
  have H := Lib.hid h
  have HL := Lib.hid hl
  clear h hl
  have hwr : IntKind.i64.wrap ((f : Int) + k) = (f : Int) + k := IntWalk.i64_in _ (by omega)
  go_enter Try.func50, Try.ntmps50
  go_wp2_with fail
  go_loopw [8] (fun i wr => ∃ (j : Nat) (sv : Value) (vs : List Value), j ≤ k ∧ i = .int .i64 ((f + j : Nat) : Int) ∧ BD b wr st sv vs (looseN ss f j tt) ∧ BF b W wr) (fun i _ => f + k - (intOf i).toNat)
  case atStart => exact ⟨0, _, _, by omega, rfl, by rw [looseN_zero]; exact H.out, BF.refl _ _⟩
  case round =>
    obtain ⟨j, sv, vs, hk, rfl, hM, hF⟩ := hrel
    have HM := Lib.hid hM; have HF := Lib.hid hF
    have hll := looseN_len ss f j tt
    by_cases hlt : j < k
    · have hq : f + j < ss.length := by omega
      have hq2 : f + j < (looseN ss f j tt).length := by omega
      have hget : (looseN ss f j tt)[f + j]'hq2 = ss[f + j] := by rw [looseN_get ss f j tt (f + j) hq, if_neg (by omega)]
      have hsu := looseN_succ ss f j tt hq
      obtain ⟨g, c, rfl, hbg, hg, hc⟩ := hM.addr (by omega)
      have c0 := (hM.cell hq2).2
      rw [hget] at c0
      have fz := hM.froz
      have kb := hM.box.cell; have lb := hM.lt
      have HST := hM.setFinal (f + j) hq2 1000000001
      rw [hget] at HST
      have hal := HL.out _ (List.getElem_mem hq)
      have hall : ∀ s ∈ looseN ss f j tt, s.arcs.length ≤ 1001 := fun s hs => by
        obtain ⟨i, hi, rfl⟩ := List.getElem_of_mem hs
        rw [looseN_len] at hi
        rw [looseN_get _ _ _ _ i hi]
        have := HL.out _ (List.getElem_mem hi)
        split
        · unfold looseS; simp only; split <;> simp <;> omega
        · omega
      have HALL := Lib.hid hall
      rw [hll] at kb
      generalize ss[f + j] = s at *
      have HSU := Lib.hid hsu; have HGET := Lib.hid hget; have HS := Lib.hid HST; have HLL := Lib.hid hll
      generalize looseN ss f j tt = sj at *
      clear hM hF hget hsu HST hall hll
      have g1 : (((f + j : Nat) : Int)) < (f : Int) + k := by omega
      have g2 : (0 : Int) ≤ ((f + j : Nat) : Int) := by omega
      have g3 : ((f + j : Nat) : Int) < (ss.length : Int) := by omega
      generalize hqq : f + j = q at *
      have HQ := Lib.hid hqq; clear hqq
      by_cases hinf : s.final = 1000000001
      · have e1 : (s.final == 1000000001) = true := by simp [hinf]
        have hss : sj.set q (looseS tt s) = sj := set_eta _ _ hq2 _ (by rw [HGET.out]; unfold looseS; rw [if_pos (.inl hinf), List.append_nil, ← hinf])
        have HE := Lib.hid (HSU.out.trans hss)
        clear hss hinf
        go_wp2_with fail
        go_roundw
        case rel => exact ⟨j + 1, _, _, by omega, by rw [← Nat.add_assoc, HQ.out]; go_num, by rw [HE.out]; exact HM.out, HF.out⟩
        case measure => have := HQ.out; simp [intOf]; omega
      · have e1 : (s.final == 1000000001) = false := by simpa using hinf
        by_cases ht : 0 ≤ tt
        · have HB := Lib.hid HS.out.1
          have hsl : (sj.set q ⟨1000000001, s.arcs⟩).length = ss.length := by rw [List.length_set, HLL.out]
          have HSL := Lib.hid hsl
          have hq3 : q < (sj.set q ⟨1000000001, s.arcs⟩).length := by rw [List.length_set]; exact hq2
          have HEQ : Hid (addS (sj.set q ⟨1000000001, s.arcs⟩) (q, ⟨0, 0, s.final, tt⟩) = looseN ss f (j + 1) tt) := Lib.hid (by
            rw [HSU.out, addS_eq _ _ (by rw [List.length_set]; exact hq2)]
            simp only [List.getElem_set_self, List.set_set]
            unfold looseS
            rw [if_neg (by omega)])
          have HAL2 : Hid (∀ x ∈ sj.set q ⟨1000000001, s.arcs⟩, x.arcs.length ≤ 100000) := Lib.hid (fun x hx => by
            rcases List.mem_or_eq_of_mem_set hx with h | rfl
            · have := HALL.out x h; omega
            · simp only; omega)
          clear hsl hinf
          go_wp2_with fail
          have HB2 : BD b (wr.setCell ⟨g, q * 2, none⟩ (.int .i64 1000000001)) st (.slice (some ⟨g, 0, none⟩) sj.length c) vs (sj.set q ⟨1000000001, s.arcs⟩) := HB.out
          refine (hop_any b _ st _ vs _ HB2 q hq3 (by have := HSL.out; omega) HAL2.out tt s.final).mono ?_
          rintro e w5 ⟨rfl, sv', vs', h1, h2⟩
          rw [HEQ.out] at h1
          have H1 := Lib.hid h1
          have H2 := Lib.hid ((HF.out.trans HS.out.2).trans h2)
          clear h1 h2 HB2
          go_wp2_with fail
          go_roundw
          case rel => exact ⟨j + 1, _, _, by omega, by rw [← Nat.add_assoc, HQ.out]; go_num, H1.out, H2.out⟩
          case measure => have := HQ.out; simp [intOf]; omega
        · have HEQ : Hid (sj.set q ⟨1000000001, s.arcs⟩ = looseN ss f (j + 1) tt) := Lib.hid (by
            rw [HSU.out]
            unfold looseS
            rw [if_pos (by omega), List.append_nil])
          clear hinf
          go_wp2_with fail
          go_roundw
          case rel => exact ⟨j + 1, _, _, by omega, by rw [← Nat.add_assoc, HQ.out]; go_num, by rw [← HEQ.out]; exact HS.out.1, HF.out.trans HS.out.2⟩
          case measure => have := HQ.out; simp [intOf]; omega
    · obtain rfl : j = k := by omega
      have g1 : ¬ (((f + j : Nat) : Int)) < (f : Int) + j := by omega
      clear hM hF
      go_wp2_with fail
      go_end0
      exact ⟨rfl, ⟨_, _, HM.out⟩, HF.out⟩

set_option maxRecDepth 100000 in
theorem both_any (v1 v2 : Value) (m1 m2 : MachL) (w : World) (h1 : MachAt w v1 m1) (h2 : MachAt w v2 m2) (k1 : Valid m1) (k2 : Valid m2) :
    Calls Try.prog 42 #[v1, v2] w fun e w' => e = .returned (.int .i64 0) ∧ Below w.heap.size w w' := by
  have CH1 := Lib.hid (fun W' (hb : Below w.heap.size w W') => Check_ok v1 m1 W' (h1.below hb) k1)
  have CH2 := Lib.hid (fun W' (hb : Below w.heap.size w W') => Check_ok v2 m2 W' (h2.below hb) k2)
  obtain ⟨A1, c1, rfl, -⟩ := h1
  obtain ⟨A2, c2, rfl, -⟩ := h2
  go_enter Try.func42, Try.ntmps42
  go_wp2_with fail
  refine (CH1.out _ (by repeat' (first | exact Below.refl _ _ | assumption | refine Below.drew ?_ | refine Below.alloc ?_ (by first | omega | (simp; done) | (simp; omega)) _ | refine Below.setCell ?_ (by first | omega | (simp; done) | (simp; omega)) _))).mono ?_; rintro e w1 ⟨rfl, bel⟩; obtain ⟨c1, f1⟩ := bcell bel; have z1 := bel.size; simp at z1; (try have y0 : w.heap.size < w1.heap.size := by omega); (try have y1 : w.heap.size + 1 < w1.heap.size := by omega); (try have y2 : w.heap.size + 1 + 1 < w1.heap.size := by omega); (try have y3 : w.heap.size + 1 + 1 + 1 < w1.heap.size := by omega); (try have y4 : w.heap.size + 1 + 1 + 1 + 1 < w1.heap.size := by omega); (try have y5 : w.heap.size + 1 + 1 + 1 + 1 + 1 < w1.heap.size := by omega); (try have y6 : w.heap.size + 1 + 1 + 1 + 1 + 1 + 1 < w1.heap.size := by omega)
  go_wp2_with fail
  refine (CH2.out _ (by repeat' (first | exact Below.refl _ _ | assumption | refine Below.step ?_ bel | refine Below.drew ?_ | refine Below.alloc ?_ (by first | omega | (simp; done) | (simp; omega)) _ | refine Below.setCell ?_ (by first | omega | (simp; done) | (simp; omega)) _))).mono ?_; rintro e w2 ⟨rfl, b2⟩
  go_wp2_with fail
  go_ret
  exact ⟨rfl, Below.trans ((by repeat' (first | exact Below.refl _ _ | assumption | refine Below.step ?_ bel | refine Below.drew ?_ | refine Below.alloc ?_ (by first | omega | (simp; done) | (simp; omega)) _ | refine Below.setCell ?_ (by first | omega | (simp; done) | (simp; omega)) _)) : Below w.heap.size w w1) (b2.mono (by omega))⟩
end Go.Proofs.Yteniblkmokpjjaa
