/- (*paper.sheet).line: words, a blank between them, and a line's end. -/
import Derived.Test.YtkmnacchiagipaaDoorSheet
import Derived.Test.YtkmnacchiagipaaDoorLayJ
import Derived.Deep.DeepCutAuto
import Derived.Deep.CutBlock
import Derived.Deep.RegionHeld3
import Derived.Test.YtkmnacchiagipaaDoorPaperPlain
namespace Go.Proofs.YtkmnacchiagipaaDoor
open Go.RowKit

theorem extraB : Builder.Extra Tryd.prog Tryd.lays156_ren := {
  sizeBuilder := by kernel_rfl
  liesBuilder := by kernel_rfl
  t5 := Tryd.underlying5
  a5 := Tryd.isAgg5
  z5 := Tryd.sizeOf5
  v5 := Tryd.zeroValue5
  infoByte := by kernel_rfl
  cellsByte := by kernel_rfl
  sizeByte := by kernel_rfl
  neB5 := by decide }
theorem join_any (bk o c : Nat) (xs : List ByteArray) (sep : ByteArray) (w : World)
    (hcells : ∀ (j : Nat) x, xs[j]? = some x → w.cell? ⟨bk, o + j, none⟩ = some (.string x))
    (hbk : bk < w.heap.size) (hN : xs.length ≤ 140737488355328) (hcap : xs.length ≤ c)
    (hlen : (Lib.join (xs.map (·.data.toList)) sep.data.toList).length ≤ 140737488355328) :
    Calls Tryd.prog 83 #[.slice (some ⟨bk, o, none⟩) xs.length c, .string sep] w fun e w' => e = .returned (.string ⟨(Lib.join (xs.map (·.data.toList)) sep.data.toList).toArray⟩) ∧ Below w.heap.size w w' :=
  Any.strings_Join Tryd.lays156 extraB bk o c xs sep w hcells hbk hN hcap hlen

theorem builder_keep {T e : TypeId} {B b : Nat} {bs : List Value} {w w' : World} (h : Lib.IsBuilder T e B b bs w) (hb : Below w.heap.size w w') : Lib.IsBuilder T e B b bs w' := by
  have key : ∀ p, Lib.BuilderAt T e B b p bs w → Lib.BuilderAt T e B b p bs w' := by
    rintro p ⟨h1, v, h2, h3, h4⟩
    have hlt : b < w.heap.size := by
      rcases Nat.lt_or_ge b w.heap.size with h' | h'
      · exact h'
      · simp [Array.getElem?_eq_none h'] at h2
    exact ⟨h1, v, (hb.block b hlt).trans h2, own_below h3 hb (Nat.le_refl _), h4⟩
  exact h.imp (key _) (key _)
/-- a line's bytes -/
def lineB (xs : List ByteArray) : List UInt8 := Lib.join (xs.map (·.data.toList)) [32] ++ [10]
set_option maxRecDepth 100000 in
set_option maxHeartbeats 4000000 in
theorem line_any (B b bk o c : Nat) (l : List UInt8) (xs : List ByteArray) (w : World) (h : Lib.IsBuilder 116 5 B b (Lib.byteCells l) w) (hBw : B ≤ w.heap.size)
    (hcells : ∀ (j : Nat) x, xs[j]? = some x → w.cell? ⟨bk, o + j, none⟩ = some (.string x)) (hbk : bk < w.heap.size) (hN : xs.length ≤ 1000) (hcap : xs.length ≤ c)
    (hlen : (lineB xs).length ≤ 1000000) (hll : l.length ≤ 1000000) :
    Calls Tryd.prog 43 #[.pointer (some ⟨b, 0, none⟩), .slice (some ⟨bk, o, none⟩) xs.length c] w fun e w' => e = .returned (.tuple #[]) ∧ Lib.IsBuilder 116 5 B b (Lib.byteCells (l ++ lineB xs)) w' ∧ Below B w w' ∧ OthersB b w w' := by
  go_enter Tryd.func43, Tryd.ntmps43
  go_upto_region 0 with fail
  have hd : Below w.heap.size w w.drew := (Below.refl _ _).drew
  have HJ := Lib.hid (join_any bk o c xs ⟨#[32]⟩ w.drew hcells hbk (by omega) hcap (by unfold lineB at hlen; rw [List.length_append] at hlen; simp at hlen ⊢; omega))
  have HI := Lib.hid h
  have HL := Lib.hid hlen
  clear h hcells hlen
  refine wp_region_noPanic ?_
  refine wp_region_held_drew (S := fun _ => True) (by kernel_rfl) trivial (fun hHeld => ?_)
  refine wpAnyH_take (i := 0) (v := ?v0) (by simp only [List.getElem?_toArray, List.getElem?_cons_zero]; rfl) (by kernel_rfl) (by kernel_rfl) (by kernel_rfl) (fun _ _ _ h => h) (Or.inl ⟨by rfl, ?h0⟩) hHeld ?r0
  case h0 => intro w hSw; (try dsimp only at hSw); go_simp; with_reducible rfl
  simp only [Act.put, List.setIfInBounds_toArray, List.set_cons_zero, List.set_cons_succ]
  refine wpAnyH_take (i := 1) (v := ?v1) (by simp only [List.getElem?_toArray, List.getElem?_cons_succ, List.getElem?_cons_zero]; rfl) (by kernel_rfl) (by kernel_rfl) (by kernel_rfl) (fun _ _ _ h => h) (Or.inl ⟨by rfl, ?h1⟩) hHeld ?r1
  case h1 => intro w hSw; (try dsimp only at hSw); go_simp; with_reducible rfl
  simp only [Act.put, List.setIfInBounds_toArray, List.set_cons_zero, List.set_cons_succ]
  refine wpAnyH_take (i := 2) (v := ?v2) (by simp only [List.getElem?_toArray, List.getElem?_cons_succ, List.getElem?_cons_zero]; rfl) (by kernel_rfl) (by kernel_rfl) (by kernel_rfl) (fun _ _ _ h => h) (Or.inl ⟨by rfl, ?h2⟩) hHeld ?r2
  case h2 => intro w hSw; (try dsimp only at hSw); go_simp; with_reducible rfl
  simp only [Act.put, List.setIfInBounds_toArray, List.set_cons_zero, List.set_cons_succ]
  refine wpAnyH_take (i := 3) (v := ?v3) (by simp only [List.getElem?_toArray, List.getElem?_cons_succ, List.getElem?_cons_zero]; rfl) (by kernel_rfl) (by kernel_rfl) (by kernel_rfl) (fun _ _ _ h => h) (Or.inl ⟨by rfl, ?h3⟩) hHeld ?r3
  case h3 => intro w hSw; (try dsimp only at hSw); go_simp; with_reducible rfl
  simp only [Act.put, List.setIfInBounds_toArray, List.set_cons_zero, List.set_cons_succ]
  refine wpAnyH_ready (rs := [4]) (by kernel_rfl) (by simp) (AllReadyH.cons (by simp only [List.getElem?_toArray, List.getElem?_cons_succ, List.getElem?_cons_zero]; rfl) (fun K hK => ?s4) AllReadyH.nil)
  go_simp
  refine HJ.out.mono ?_; rintro e w1 ⟨rfl, b1⟩
  go_wp2_with fail
  refine hK.out _ _ trivial (fun hHeld => ?_)
  clear hK K
  (try simp only [Act.put, List.setIfInBounds_toArray, List.set_cons_zero, List.set_cons_succ])
  have hJl : (Lib.join (xs.map (·.data.toList)) [32]).length ≤ 1000000 := by have := HL.out; unfold lineB at this; rw [List.length_append] at this; omega
  have HEQ : Hid (Lib.byteCells l ++ Lib.strCells ⟨(Lib.join (xs.map (·.data.toList)) [32]).toArray⟩ ++ [.int .u8 10] = Lib.byteCells (l ++ lineB xs)) := Lib.hid (by
    unfold lineB; simp [Lib.byteCells, Lib.strCells])
  generalize Lib.join (xs.map (·.data.toList)) [32] = J at *
  have b01 : Below w.heap.size w w1 := hd.trans b1
  have HS := Lib.hid (sheet_string B b (Lib.byteCells l) ⟨J.toArray⟩ w1 (builder_keep HI.out b01) (by rw [Lib.byteCells_length]; simp [ByteArray.size]; omega) (by have := b01.size; omega))
  refine wpAnyH_ready (rs := [5]) (by kernel_rfl) (by simp) (AllReadyH.cons (by simp only [List.getElem?_toArray, List.getElem?_cons_succ, List.getElem?_cons_zero]; rfl) (fun K hK => ?s5) AllReadyH.nil)
  go_simp
  refine HS.out.mono ?_; rintro e w2 ⟨rfl, hb2, b2, o2⟩
  go_wp2_with fail
  refine hK.out _ _ trivial (fun hHeld => ?_)
  clear hK K
  refine wpAnyH_done (by kernel_rfl) ?_ _
  refine NoPanic.normal ?_
  have OB2 := Lib.hid ((OthersB.below (b := b) b01).trans o2)
  clear o2
  have b02 : Below B w w2 := (b01.mono hBw).trans b2
  have HB := Lib.hid (sheet_byte B b (Lib.byteCells l ++ Lib.strCells ⟨J.toArray⟩) 10 w2 (.inr hb2) (by rw [List.length_append, Lib.byteCells_length, Lib.strCells_length]; simp [ByteArray.size]; omega) (by have := b02.size; omega))
  go_wp2_with fail
  refine HB.out.mono ?_; rintro e w3 ⟨rfl, hb3, b3, o3⟩
  rw [HEQ.out] at hb3
  go_wp2_with fail
  go_end0
  exact ⟨rfl, .inr hb3, b02.trans b3, OB2.out.trans o3⟩
end Go.Proofs.YtkmnacchiagipaaDoor
