/- names.word. -/
import Derived.Test.YtkmnacchiagipaaDoorNamesIdx
import Derived.Lib.OthersKept
import Derived.Laws.RangeAny
import Derived.Lib.Strings
namespace Go.Proofs.YtkmnacchiagipaaDoor
open Go.RowKit

/-- may it be a name's text? -/
noncomputable def wordB (t : Str) : Bool := @decide (WordOk t) (Classical.propDecidable _)
theorem wordB_yes {t : Str} (h : WordOk t) : wordB t = true := by unfold wordB; exact @decide_eq_true _ (Classical.propDecidable _) h
theorem wordB_no {t : Str} (h : ¬ WordOk t) : wordB t = false := by unfold wordB; exact @decide_eq_false _ (Classical.propDecidable _) h
theorem wordB_iff {t : Str} : wordB t = true ↔ WordOk t := ⟨fun h => Classical.byContradiction (fun hn => by rw [wordB_no hn] at h; cases h), wordB_yes⟩
theorem iterAt_below {w : World} {B k : Nat} (hk : B ≤ k) (s : ByteArray) (p : Nat) : Below B w (w.iterAt k s p) := by
  refine ⟨rfl, rfl, rfl, by simp [World.iterAt], fun i hi => ?_⟩
  simp [World.iterAt, Array.getElem?_setIfInBounds_ne (show k ≠ i by omega)]
theorem iterAt_get {w : World} {k : Nat} {s : ByteArray} {p : Nat} (hk : w.heap[k]? = some (.stringIter s p)) (p' : Nat) : (w.iterAt k s p').heap[k]? = some (.stringIter s p') := Lib.iterAt_heap w k s p p' hk

/-- where a string's iterator stands -/
def itPos (w : World) (r : Nat) : Nat := match w.heap[r]? with | some (.stringIter _ p) => p | _ => 0
theorem itPos_of {w : World} {r : Nat} {s : ByteArray} {p : Nat} (h : w.heap[r]? = some (.stringIter s p)) : itPos w r = p := by simp [itPos, h]
set_option maxRecDepth 100000 in
set_option maxHeartbeats 4000000 in
theorem word_name (t : Str) (w : World) : Calls Tryd.prog 37 #[strV t] w fun e w' => e = .returned (.bool (wordB t)) ∧ Below w.heap.size w w' := by
  obtain ⟨s, hs⟩ : ∃ s : ByteArray, (⟨t.toArray⟩ : ByteArray) = s := ⟨_, rfl⟩
  have hsz : s.size = t.length := by rw [← hs]; simp [ByteArray.size]
  have hget : ∀ i (h : i < t.length) (h' : i < s.size), s[i]'h' = t[i] := fun i h h' => by subst hs; rfl
  have htl : s.toList = t := by rw [← hs, Lib.toList_data]
  show Calls _ _ #[.string ⟨t.toArray⟩] _ _
  rw [hs]
  have HG := Lib.hid hget; have HSZ := Lib.hid hsz
  clear hs hget
  by_cases h0 : t = []
  · subst h0
    have HW := Lib.hid (wordB_no (t := []) (fun h => h.1 rfl))
    have e1 : s.toList.isEmpty = true := by rw [htl]; rfl
    generalize wordB [] = r at *
    clear hsz
    go_enter Tryd.func37, Tryd.ntmps37
    go_wp2_with fail
    go_ret
    exact ⟨by rw [HW.out]; rfl, Below.refl _ _⟩
  · have e1 : s.toList.isEmpty = false := by rw [htl]; simpa using h0
    have HT0 := Lib.hid h0
    clear h0 htl
    by_cases h12 : 12 < t.length
    · have HW := Lib.hid (wordB_no (t := t) (fun h => by have := h.2.1; omega))
      have e2 : (12 : Int) < (s.size : Int) := by omega
      generalize wordB t = r at *
      clear hsz h12
      go_enter Tryd.func37, Tryd.ntmps37
      go_wp2_with fail
      go_ret
      exact ⟨by rw [HW.out]; rfl, Below.refl _ _⟩
    · have e2 : ¬ (12 : Int) < (s.size : Int) := by omega
      have hs12 : s.size ≤ 12 := by omega
      have HWY := Lib.hid (fun (h : ∀ i (h : i < t.length), wordC i t[i] = true) => wordB_yes (t := t) ⟨HT0.out, by omega, h⟩)
      have HWN := Lib.hid (fun i (h : i < t.length) (hn : wordC i t[i] = false) => wordB_no (t := t) (fun hw => by rw [hw.2.2 i h] at hn; cases hn))
      generalize wordB t = r at *
      clear hsz h12
      go_enter Tryd.func37, Tryd.ntmps37
      go_wp2_with fail
      go_loopw [14] (fun _ wr => ∃ k : Nat, k ≤ s.size ∧ wr.heap[w.heap.size]? = some (.stringIter s k) ∧ Below w.heap.size w wr ∧ ∀ i (h : i < t.length), i < k → wordC i t[i] = true) (fun _ wr => s.size - itPos wr w.heap.size)
      case atStart => exact ⟨0, by omega, heap_alloc_new w _, (Below.refl _ _).alloc (Nat.le_refl _) _, fun i _ h => absurd h (by omega)⟩
      case round =>
        obtain ⟨k, hk, hi, hb, hall⟩ := hrel
        have HI := Lib.hid hi; have HB := Lib.hid hb; have HA := Lib.hid hall
        clear hb hall
        by_cases hlt : k < s.size
        · have hkt : k < t.length := by have := HSZ.out; omega
          have hgk := HG.out k hkt hlt
          obtain ⟨x, hx⟩ : ∃ x : Nat, (s[k]'hlt).toNat = x := ⟨_, rfl⟩
          have hwc : wordC k t[k] = wordV k x := by rw [← hgk]; unfold wordC; rw [hx]
          have HNO := Lib.hid (fun h => HWN.out k hkt (hwc.trans h))
          have hx256 : x < 256 := by rw [← hx]; exact (s[k]'hlt).toNat_lt
          have HYES : Hid (wordV k x = true → ∀ i (h : i < t.length), i < k + 1 → wordC i t[i] = true) := Lib.hid fun h i hi hik => by
            by_cases e : i = k
            · subst e; rw [hwc]; exact h
            · exact HA.out i hi (by omega)
          clear hwc hgk
          by_cases h128 : x < 128
          · have hnx := fun ty => Lib.run_next_ascii_at (P := Tryd.prog) wr w.heap.size s k ty hi hlt (by rw [hx]; exact h128)
            rw [hx] at hnx
            have HIT := Lib.hid (iterAt_get hi (k + 1))
            have HBX := Lib.hid (HB.out.trans (iterAt_below (w := wr) (Nat.le_refl w.heap.size) s (k + 1)))
            have HV : Hid (wordV k x = ((97 ≤ x && x ≤ 122) || x == 95 || (48 ≤ x && x ≤ 57 && 0 < k))) := Lib.hid rfl
            clear hx hi hlt
            obtain ⟨y, hy⟩ : ∃ y : Int, (x : Int) = y := ⟨_, rfl⟩
            rw [hy] at hnx
            have HY := Lib.hid hy
            clear hy hx256 h128
            by_cases c1 : 97 ≤ y ∧ y ≤ 122
            · obtain ⟨c1, c2⟩ := c1
              have HALL := Lib.hid (HYES.out (by have := HY.out; rw [HV.out]; simp; omega))
              clear HYES HNO
              go_wp2_with fail
              go_roundw
              case rel => exact ⟨k + 1, by have := HSZ.out; omega, HIT.out, HBX.out, HALL.out⟩
              case measure => have := HSZ.out; rw [itPos_of HIT.out, itPos_of HI.out]; omega
            · by_cases c3 : y = 95
              · have c4 : (y == 95) = true := by simpa using c3
                have HALL := Lib.hid (HYES.out (by have := HY.out; rw [HV.out]; simp; omega))
                have c5 : ¬ (97 ≤ y) := by omega
                clear HYES HNO c1 c3
                go_wp2_with fail
                go_roundw
                case rel => exact ⟨k + 1, by have := HSZ.out; omega, HIT.out, HBX.out, HALL.out⟩
                case measure => have := HSZ.out; rw [itPos_of HIT.out, itPos_of HI.out]; omega
              · have c4 : (y == 95) = false := by simpa using c3
                by_cases c6 : (48 ≤ y ∧ y ≤ 57) ∧ 0 < k
                · obtain ⟨⟨c7, c8⟩, c9⟩ := c6
                  have HALL := Lib.hid (HYES.out (by have := HY.out; rw [HV.out]; simp; omega))
                  have c5 : ¬ (97 ≤ y) := by omega
                  have c10 : (0 : Int) < (k : Int) := by omega
                  clear HYES HNO c1 c3
                  go_wp2_with fail
                  go_roundw
                  case rel => exact ⟨k + 1, by have := HSZ.out; omega, HIT.out, HBX.out, HALL.out⟩
                  case measure => have := HSZ.out; rw [itPos_of HIT.out, itPos_of HI.out]; omega
                · have HF := Lib.hid (HNO.out (by have := HY.out; rw [HV.out]; simp; omega))
                  clear HYES HNO
                  by_cases d1 : 97 ≤ y
                  · have d2 : ¬ y ≤ 122 := by omega
                    have d3 : ¬ y ≤ 57 := by omega
                    have d4 : 48 ≤ y := by omega
                    clear c1 c3 c6
                    go_wp2_with fail
                    go_ret
                    exact ⟨by rw [HF.out]; rfl, HBX.out⟩
                  · by_cases d2 : 48 ≤ y
                    · by_cases d3 : y ≤ 57
                      · have d4 : ¬ (0 : Int) < (k : Int) := by omega
                        clear c1 c3 c6
                        go_wp2_with fail
                        go_ret
                        exact ⟨by rw [HF.out]; rfl, HBX.out⟩
                      · clear c1 c3 c6
                        go_wp2_with fail
                        go_ret
                        exact ⟨by rw [HF.out]; rfl, HBX.out⟩
                    · clear c1 c3 c6
                      go_wp2_with fail
                      go_ret
                      exact ⟨by rw [HF.out]; rfl, HBX.out⟩
          · have hnx := fun ty => Lib.run_next_any_at (P := Tryd.prog) wr w.heap.size s k ty hi hlt
            have hd := decode_high s k hlt (by rw [hx]; omega)
            have HBX := Lib.hid (HB.out.trans (iterAt_below (w := wr) (Nat.le_refl w.heap.size) s (k + (Utf8.decode s k).2)))
            have HF := Lib.hid (HNO.out (by unfold wordV; simp; omega))
            clear hx hi hlt HYES HNO h128 hx256
            obtain ⟨y, hy⟩ : ∃ y : Int, ((Utf8.decode s k).1 : Int) = y := ⟨_, rfl⟩
            have h128 : 128 ≤ y := by omega
            rw [hy] at hnx
            clear hy hd
            generalize (Utf8.decode s k).2 = wd at *
            have d1 : 97 ≤ y := by omega
            have d2 : ¬ y ≤ 122 := by omega
            have d3 : ¬ y ≤ 57 := by omega
            have d4 : 48 ≤ y := by omega
            have d5 : (y == 95) = false := by simp; omega
            go_wp2_with fail
            go_ret
            exact ⟨by rw [HF.out]; rfl, HBX.out⟩
        · have hnx := fun ty => Lib.run_next_end_at (P := Tryd.prog) wr w.heap.size s k ty hi hlt
          have HR := Lib.hid (HWY.out (fun i h => HA.out i h (by have := HSZ.out; omega)))
          clear hi
          go_wp2_with fail
          go_ret
          exact ⟨by rw [HR.out]; rfl, HB.out⟩
end Go.Proofs.YtkmnacchiagipaaDoor
