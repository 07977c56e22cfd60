/- paper.numbers: the numbers of some words. -/
import Derived.Test.YtajbfhdkghofbaaGreatDoorTextUse
import Derived.Test.YtajbfhdkghofbaaGreatDoorPaperRead
import Derived.Test.YtajbfhdkghofbaaGreatDoorSlices
namespace Go.Proofs.YtajbfhdkghofbaaGreatDoor
open Go.RowKit

theorem eltNums : Elt Tryz.prog 89 3 (.int .i64 0) 1 8 := ⟨Tryz.underlying89, by kernel_rfl, rfl, by omega⟩
def numC (ns : List Int) : List Value := ns.map (Value.int .i64)
/-- a slice of strings reads as xs -/
structure WordsAt (w : World) (A : Option Addr) (xs : List (List UInt8)) : Prop where
  rdy : Rdy A xs.length
  cell : ∀ i (h : i < xs.length), w.cell? ⟨blk A, ofs A + i, none⟩ = some (.string ⟨xs[i].toArray⟩)
theorem WordsAt.below {w w' : World} {A : Option Addr} {xs : List (List UInt8)} (h : WordsAt w A xs) (hb : Below w.heap.size w w') : WordsAt w' A xs := ⟨h.rdy, fun i hi => cell_keep hb (Nat.le_refl _) (h.cell i hi)⟩
theorem num_of {l : List UInt8} {v : Int} {ev : Value} (h : AtoiR l v ev) : (ev = .nilIface ∧ NumOf l v) ∨ ((∃ te pe, ev = .iface te pe) ∧ NumOf l (-1)) := by
  rcases h with ⟨h1, h2⟩ | ⟨h1, h2⟩
  · exact .inl ⟨h1, fun hl => by rw [h2 hl]; rfl⟩
  · exact .inr ⟨h1, fun hl => by rw [h2 hl]; rfl⟩
theorem NumsOf.snoc {xs : List (List UInt8)} {ns : List Int} {k : Nat} {v : Int} (h : NumsOf (xs.take k) ns) (hk : k < xs.length) (hv : NumOf xs[k] v) : NumsOf (xs.take (k + 1)) (ns ++ [v]) := by
  obtain ⟨h1, h2⟩ := h
  have hl : (xs.take k).length = k := by simp; omega
  rw [hl] at h1
  refine ⟨by simp [h1]; omega, fun i hi hi' => ?_⟩
  simp only [List.length_append, List.length_cons, List.length_nil] at hi'
  rw [List.getElem_take]
  by_cases e : i < k
  · rw [List.getElem_append_left (by omega)]
    have := h2 i (by omega) (by omega)
    rw [List.getElem_take] at this; exact this
  · have e1 : i = k := by omega
    subst e1
    rw [List.getElem_append_right (by omega)]
    simpa [h1] using hv

set_option maxRecDepth 100000 in
set_option maxHeartbeats 4000000 in
theorem numbers_any (A : Option Addr) (xs : List (List UInt8)) (c : Nat) (w : World) (hx : WordsAt w A xs) (hl : ∀ x ∈ xs, x.length ≤ 1000000) (hn : xs.length ≤ 100000) (ht : TextW w) :
    Calls Tryz.prog 35 #[.slice A xs.length c] w fun e w' => ∃ v ns, e = .returned v ∧ NumsOf xs ns ∧ w'.ownsRow w.heap.size 3 1 v ns.length (numC ns) ∧ Below w.heap.size w w' := by
  have HX := Lib.hid hx; have HT := Lib.hid ht; have HL := Lib.hid hl
  have rd := hx.rdy
  clear hx ht hl
  go_enter Tryz.func35, Tryz.ntmps35
  go_wp2_with fail
  go_loopw [10, 3] (fun iv tv wr => ∃ (k : Nat) (ns : List Int), k ≤ xs.length ∧ iv = .int .i64 k ∧ NumsOf (xs.take k) ns ∧ wr.ownsRow w.heap.size 3 1 tv ns.length (numC ns) ∧ Below w.heap.size w wr) (fun iv _ _ => xs.length - (intOf iv).toNat)
  case atStart => exact ⟨0, [], by omega, rfl, ⟨by simp, fun i h => absurd h (by simp)⟩, World.ownsRow_nil _ _ _ _, Below.refl _ _⟩
  case round =>
    obtain ⟨k, ns, hk, rfl, hN, hO, hb⟩ := hrel
    have HN := Lib.hid hN; have HO := Lib.hid hO; have HB := Lib.hid hb
    have HNK : Hid (ns.length = k) := Lib.hid (by have := hN.1; simp at this; omega)
    obtain ⟨A5, c5, rfl, -, -⟩ := own_form hO
    clear hN hO
    have i0 : (0 : Int) ≤ (k : Int) := by omega
    by_cases hlt : k < xs.length
    · have i1 : (k : Int) < (xs.length : Int) := by omega
      have d0 := (HX.out.below hb).cell k hlt
      have AT := Lib.hid (atoi_any ⟨xs[k].toArray⟩ (HL.out _ (List.getElem_mem hlt)) wr (HT.out.below hb))
      have etl : (⟨xs[k].toArray⟩ : ByteArray).data.toList = xs[k] := rfl
      rw [etl] at AT
      have HS : Hid (∀ v, NumOf xs[k] v → NumsOf (xs.take (k + 1)) (ns ++ [v])) := Lib.hid fun v hv => HN.out.snoc hlt hv
      generalize xs[k] = x at *
      have lA := World.block_lt_of_cell? _ _ d0
      obtain ⟨wo, rfl⟩ : ∃ wo : World, wo = wr := ⟨_, rfl⟩
      clear hb etl
      go_wp2_with fail
      refine AT.out.mono ?_; rintro e w1 ⟨v, ev, rfl, hA, b1⟩
      have HO1 := Lib.hid (own_below HO.out b1 (Nat.le_refl _)); have HB1 := Lib.hid (HB.out.trans (b1.mono HB.out.size))
      have hz := HB1.out.size
      have tail : ∀ (u : Int) (w9 : World) (g cap : Nat), NumOf x u → w9.ownsRow w.heap.size 3 1 (.slice (some ⟨g, 0, none⟩) (ns.length + 1) cap) (ns.length + 1) (numC ns ++ [.int .i64 u]) → w1.grownBy w9 (Value.slice A5 ns.length c5).ownBlock →
          NumsOf (xs.take (k + 1)) (ns ++ [u]) ∧ w9.ownsRow w.heap.size 3 1 (.slice (some ⟨g, 0, none⟩) (ns.length + 1) cap) (ns ++ [u]).length (numC (ns ++ [u])) ∧ Below w.heap.size w w9 := by
        intro u w9 g cap hu ho hg
        refine ⟨HS.out u hu, ?_, below_app HB1.out HO1.out hg (Nat.le_refl _) hz⟩
        have e1 : (ns ++ [u]).length = ns.length + 1 := by simp
        have e2 : numC (ns ++ [u]) = numC ns ++ [.int .i64 u] := by simp [numC]
        rw [e1, e2]; exact ho
      have TL := Lib.hid tail; clear tail
      have HAT := Lib.hid (num_of hA)
      clear hA b1
      rcases HAT.out with ⟨rfl, hv⟩ | ⟨⟨te, pe, rfl⟩, hv⟩
      · have HV := Lib.hid hv
        clear hv HAT d0
        go_wp2_with (at_builtin; refine wpList_app1 rfl _ _ rfl eltNums w.heap.size (.slice A5 ns.length c5) ns.length (numC ns) rfl w1 HO1.out #[.int .i64 v] rfl w1.heap.size rfl rfl rfl (by simp [Value.oneCell']) (by have := HNK.out; omega) (by omega) hz ?_; intro g3 cap w9 ho9 hg9 hat9 hlt9)
        have HE := Lib.hid (TL.out v w9 g3 cap HV.out ho9 hg9)
        clear ho9 hg9 hat9
        go_roundw
        case rel => exact ⟨k + 1, ns ++ [v], by omega, by go_num, HE.out.1, HE.out.2.1, HE.out.2.2⟩
        case measure => simp [intOf]; omega
      · have HV := Lib.hid hv
        clear hv HAT d0
        go_wp2_with (at_builtin; refine wpList_app1 rfl _ _ rfl eltNums w.heap.size (.slice A5 ns.length c5) ns.length (numC ns) rfl w1 HO1.out #[.int .i64 (-1)] rfl w1.heap.size rfl rfl rfl (by simp [Value.oneCell']) (by have := HNK.out; omega) (by omega) hz ?_; intro g3 cap w9 ho9 hg9 hat9 hlt9)
        have HE := Lib.hid (TL.out (-1) w9 g3 cap HV.out ho9 hg9)
        clear ho9 hg9 hat9
        go_roundw
        case rel => exact ⟨k + 1, ns ++ [-1], by omega, by go_num, HE.out.1, HE.out.2.1, HE.out.2.2⟩
        case measure => simp [intOf]; omega
    · obtain rfl : k = xs.length := by omega
      have i1 : ¬ (xs.length : Int) < (xs.length : Int) := by omega
      go_wp2_with fail
      go_ret
      exact ⟨_, rfl, ns, by have := HN.out; rwa [List.take_length] at this, HO.out, HB.out⟩
end Go.Proofs.YtajbfhdkghofbaaGreatDoor
