/- The walk of TrimDrops. -/
import Derived.Test.YtkfhefefhnmljaaTrim
import Derived.Test.YtkfhefefhnmljaaTrimLaw
import Derived.Test.YtkfhefefhnmljaaMBox
import Derived.Test.YtkfhefefhnmljaaCount
import Derived.Test.YtkfhefefhnmljaaEachPlain
import Derived.LoopTactic
namespace Go.Proofs.Ytkfhefefhnmljaa
open Go.RowKit

namespace trimDrops
/-- the arcs kept so far -/
def kept (K : List Bool) (ss : List StateL) (k : Nat) : Nat := arcsOf (trimStates K ss k)
theorem kept_snoc (K : List Bool) (ss : List StateL) (hl : K.length = ss.length) (k : Nat) (h : k < ss.length) : kept K ss (k + 1) = if K.getD k false = true then kept K ss k + (trimArcs K ss[k].arcs).length else kept K ss k := by
  unfold kept
  rw [trimStates_snoc K ss hl k h]
  split
  · unfold arcsOf; rw [List.map_append, List.sum_append]; simp [trimState]
  · rfl
theorem kept_le (K : List Bool) (ss : List StateL) (hl : K.length = ss.length) (k : Nat) (h : k ≤ ss.length) : kept K ss k ≤ arcsOf ss := Nat.le_trans (trim_arcs_le hl k h) (arcsOf_le ss k)
theorem in_snoc (K : List Bool) (l : List ArcL) (t : Nat) (h : t < l.length) : (trimArcs K (l.take (t + 1))).length = (trimArcs K (l.take t)).length + if K.getD l[t].to.toNat false = true then 1 else 0 := by
  rw [trimArcs_snoc K l t h]; split <;> simp

set_option maxRecDepth 100000 in
set_option maxHeartbeats 8000000 in
theorem walk {w : World} (v : Value) (r : RawL) (hr : RawArg w v r) :
    Calls Try.prog 5 #[v] w fun e w' => e = .returned (.bool true) ∧ Below w.heap.size w w' := by
  have hm : Valid (mkMach r 8 false) := valid_made r 8 false (by omega) (by omega)
  have hst0 : 0 ≤ (mkMach r 8 false).start := pick_lo _ _ (by unfold mkN; omega)
  have HMD := Lib.hid (fun W hb => made_any v r 8 false W (hr.below hb) (by omega) (by omega))
  obtain ⟨hst, hlen, A, c, rfl, hN⟩ := hr
  generalize mkMach r 8 false = m at *
  have ht := trim_valid hm
  have hkg := fun sa sb ha hb q h => keepOf_get m (sa := sa) (sb := sb) ha hb q h
  have hsz := hm.size; have har := hm.arcs; have hst1 := hm.s1
  have hTE : (trimM m).states = trimStates (keepOf m) m.states m.states.length := rfl
  have hkl := keepOf_len m
  have HKI := Lib.hid (fun q => keep_iff hm (q := q))
  have HTO := Lib.hid (valid_to hm).1; have HLE := Lib.hid (valid_to hm).2
  have HV := Lib.hid hm; have HT := Lib.hid ht; have HKG := Lib.hid hkg; have HTE := Lib.hid hTE; have HKL := Lib.hid hkl
  clear hN hst hlen hm ht hkg hTE hkl
  go_enter Try.func5, Try.ntmps5
  go_wp2_with fail
  refine (HMD.out _ (by repeat' (first | exact Below.refl _ _ | assumption | refine Below.drew ?_ | refine Below.alloc ?_ (by first | omega | (simp; done) | (simp; omega)) _ | refine Below.setCell ?_ (by first | omega | (simp; done) | (simp; omega)) _))).mono ?_; rintro e w1 ⟨mv, rfl, o1, r1⟩
  obtain ⟨A1, c1, rfl, s1⟩ := own_open o1
  have b1 : Below w.heap.size w w1 := ((Below.refl _ _).alloc (Nat.le_refl _) _).trans (r1.mono (by simp))
  have X1 := Lib.hid (MBox.new (c := c1) s1)
  have b1a := b1.alloc b1.size (.cells #[.int .i64 m.start, .slice A1 m.states.length c1] 27)
  clear o1 r1 HMD s1
  go_wp2_with fail
  refine (Ahead_any _ m _ X1.out.mach HV.out).mono ?_; rintro e w2 ⟨sv2, rfl, ⟨⟨ba, sa, rfl, hA, -, hal, har2⟩⟩, r2⟩
  have b2 : Below w.heap.size w w2 := b1a.trans (r2.mono b1a.size)
  have X2 := Lib.hid (X1.out.step r2)
  have HA := Lib.hid hA; have HAR := Lib.hid har2; have HAL := Lib.hid hal
  have k2 := X2.out.blk.cell; have l2 := X2.out.blk.lt
  clear r2 hA har2 hal X1 b1a
  go_wp2_with fail
  refine (Back_any _ m _ X2.out.mach HV.out).mono ?_; rintro e w3 ⟨sv3, rfl, ⟨⟨bb, sb, rfl, hB, -, hbl, hbr⟩⟩, r3⟩
  have b3 : Below w.heap.size w w3 := b2.trans (r3.mono b2.size)
  have X3 := Lib.hid (X2.out.step r3)
  have HA3 := Lib.hid (HA.out.step r3)
  have HB := Lib.hid hB; have HBR := Lib.hid hbr; have HBL := Lib.hid hbl
  have k3 := X3.out.blk.cell; have l3 := X3.out.blk.lt
  clear r3 hB hbr hbl X2 HA k2 l2
  go_wp2_with fail
  refine (Trim_any _ m _ X3.out.mach HV.out).mono ?_; rintro e w4 ⟨mv4, rfl, o4, r4⟩
  obtain ⟨A4, c4, rfl, s4⟩ := own_open o4
  have HKQ := Lib.hid (HKG.out sa sb HAR.out HBR.out)
  generalize trimM m = t at *
  have b4 : Below w.heap.size w w4 := b3.trans (r4.mono b3.size)
  have BX : Below w4.heap.size w4 (w4.alloc (.cells #[.int .i64 t.start, .slice A4 t.states.length c4] 27)) := (Below.refl _ _).alloc (Nat.le_refl _) _
  have X4 := Lib.hid ((X3.out.step r4).step BX)
  have Y4 := Lib.hid (MBox.new (c := c4) s4)
  have HA4 := Lib.hid ((HA3.out.step r4).step BX)
  have HB4 := Lib.hid ((HB.out.step r4).step BX)
  have b4a := b4.trans (BX.mono b4.size)
  have k4 := (X3.out.step r4).blk.cell; have l4 := (X3.out.step r4).blk.lt
  clear r4 o4 s4 BX X3 HA3 HB k3 l3 HKG
  go_wp2_with fail
  clear k4 l4
  generalize w4.alloc (.cells #[.int .i64 t.start, .slice A4 t.states.length c4] 27) = w5 at *
  have HPA : Hid (∀ q (h : q < m.states.length), sa.getD q false = true → ∀ a ∈ m.states[q].arcs, sa.getD a.to.toNat false = true) := Lib.hid (fun q h hq a ha => (HAR.out _).2 (.step ((HAR.out q).1 hq) (ahead_mem.2 ⟨h, a, ha, rfl⟩)))
  have HSA : Hid (sa.getD m.start.toNat false = true) := Lib.hid ((HAR.out _).2 (.start (by unfold startOf; rw [if_pos hst0]; simp)))
  have HKS := Lib.hid (fun k h => kept_snoc (keepOf m) m.states HKL.out k h)
  have HKLE := Lib.hid (fun k h => kept_le (keepOf m) m.states HKL.out k h)
  have HCT : Hid (t.states.length = ((keepOf m).take m.states.length).count true) := Lib.hid (by rw [HTE.out]; exact trimStates_len _ _ HKL.out _ (Nat.le_refl _))
  have HCA : Hid (arcsOf t.states = kept (keepOf m) m.states m.states.length) := Lib.hid (by rw [HTE.out]; rfl)
  have k5 := X4.out.blk.cell; have l5 := X4.out.blk.lt
  have la := HA4.out.lt; have lb := HB4.out.lt
  have rdA := X4.out.at_.rdy
  go_loop [10, 11, 12] (fun many arcs i => ∃ k : Nat, k ≤ m.states.length ∧ i = .int .i64 k ∧ many = .int .i64 (((keepOf m).take k).count true : Nat) ∧ arcs = .int .i64 (kept (keepOf m) m.states k)) (fun _ _ i => m.states.length - (intOf i).toNat)
  case atStart => exact ⟨0, by omega, rfl, by simp, by simp [kept, trimStates, keptUpto, arcsOf]⟩
  case round =>
    obtain ⟨k, hk, rfl, rfl, rfl⟩ := hrel
    by_cases hlt : k < m.states.length
    · have ka := HA4.out.cell k; have kb := HB4.out.cell k
      rw [bcells_get' _ _ (by rw [HAL.out]; exact hlt)] at ka
      rw [bcells_get' _ _ (by rw [HBL.out]; exact hlt)] at kb
      have i0 : (0 : Int) ≤ ↑k := by omega
      have i1 : (↑k : Int) < ↑m.states.length := by omega
      have hS := X4.out.at_
      have d0 := hS.c0 k hlt
      obtain ⟨A', c', d1, hA'⟩ := hS.c1 k hlt
      have lA : blk A1 < w5.heap.size := World.block_lt_of_cell? _ _ d0
      have hK := HKQ.out k hlt
      have hpa := HPA.out k hlt
      have hto := HTO.out _ (List.getElem_mem hlt)
      have hns := num_snoc (keepOf m) k (by rw [HKL.out]; exact hlt)
      have hks := HKS.out k hlt
      have hkle := HKLE.out k hk
      have hkle2 := HKLE.out (k + 1) hlt
      have hcl := count_le (keepOf m) k
      have rdB := hA'.rdy
      have hall : m.states[k].arcs.length ≤ 400 := HLE.out _ (List.getElem_mem hlt)
      generalize m.states[k] = s at *
      rw [hK] at hns hks
      generalize hxa : sa.getD k false = xa at *
      generalize hxb : sb.getD k false = xb at *
      generalize hct : ((keepOf m).take k).count true = ct at *
      generalize hkt : kept (keepOf m) m.states k = kt at *
      have HNS := Lib.hid hns; have HKS2 := Lib.hid hks; have HPA2 := Lib.hid hpa; have HTO2 := Lib.hid hto; have HAA := Lib.hid hA'; have HK2 := Lib.hid hkle2
      clear hns hks hpa hto hct hkt hxa hxb hK hS hA' hkle2
      cases xa
      · go_wp2_with fail
        go_round
        case rel => exact ⟨k + 1, by omega, by go_num, by rw [HNS.out]; simp, by rw [HKS2.out]; simp⟩
        case measure => simp [intOf]; omega
      · cases xb
        · go_wp2_with fail
          go_round
          case rel => exact ⟨k + 1, by omega, by go_num, by rw [HNS.out]; simp, by rw [HKS2.out]; simp⟩
          case measure => simp [intOf]; omega
        · go_wp2_with fail
          have HPA3 : Hid (∀ a ∈ s.arcs, sa.getD a.to.toNat false = true) := Lib.hid (HPA2.out (by trivial))
          have e1 : Hid ((((keepOf m).take (k + 1)).count true : Nat) = ct + 1) := Lib.hid (by rw [HNS.out]; rfl)
          have e2 : Hid (kept (keepOf m) m.states (k + 1) = kt + (trimArcs (keepOf m) s.arcs).length) := Lib.hid (by rw [HKS2.out]; rfl)
          clear HPA2 HNS HKS2 ka kb
          go_loop [11, 13] (fun arcs i => ∃ j : Nat, j ≤ s.arcs.length ∧ i = .int .i64 j ∧ arcs = .int .i64 (kt + (trimArcs (keepOf m) (s.arcs.take j)).length : Nat)) (fun _ i => s.arcs.length - (intOf i).toNat)
          case atStart => exact ⟨0, by omega, rfl, by simp [trimArcs]⟩
          case round =>
            obtain ⟨j, hj, rfl, rfl⟩ := hrel
            by_cases hlt2 : j < s.arcs.length
            · have f3 := HAA.out.c3 j hlt2
              have ht := HTO2.out _ (List.getElem_mem hlt2)
              have hp := HPA3.out _ (List.getElem_mem hlt2)
              have hsn := in_snoc (keepOf m) s.arcs j hlt2
              have hle := trimArcs_len (keepOf m) (s.arcs.take j)
              generalize s.arcs[j] = a at *
              obtain ⟨p, hpq⟩ : ∃ p : Nat, a.to = p := ⟨a.to.toNat, by omega⟩
              have hp2 : a.to.toNat = p := by omega
              have hpn : p < m.states.length := by omega
              rw [hpq] at f3
              rw [hp2] at hp hsn
              have hK := HKQ.out p hpn
              have ka := HA4.out.cell p; have kb := HB4.out.cell p
              rw [bcells_get' _ _ (by rw [HAL.out]; exact hpn), hp] at ka
              rw [bcells_get' _ _ (by rw [HBL.out]; exact hpn)] at kb
              rw [hp, Bool.true_and] at hK
              rw [hK] at hsn
              generalize sb.getD p false = xb at *
              have p0 : (0 : Int) ≤ ↑p := by omega
              have p1 : (↑p : Int) < ↑m.states.length := by omega
              have j0 : (0 : Int) ≤ ↑j := by omega
              have j1 : (↑j : Int) < ↑s.arcs.length := by omega
              have lA2 : blk A' < w5.heap.size := World.block_lt_of_cell? _ _ f3
              have htk : (s.arcs.take j).length = j := by simp; omega
              generalize hz : (trimArcs (keepOf m) (s.arcs.take j)).length = z at *
              have HSN := Lib.hid hsn
              have q1 : kt + z ≤ 60000 := by omega
              clear hsn hz hle htk ht hK hp
              cases xb
              · go_wp2_with fail
                go_round
                case rel => exact ⟨j + 1, by omega, by go_num, by rw [HSN.out]; simp⟩
                case measure => simp [intOf]; omega
              · go_wp2_with fail
                go_round
                case rel => exact ⟨j + 1, by omega, by go_num, by rw [HSN.out]; simp; omega⟩
                case measure => simp [intOf]; omega
            · obtain rfl : j = s.arcs.length := by omega
              rw [List.take_length]
              have j1 : ¬ (↑s.arcs.length : Int) < ↑s.arcs.length := by omega
              go_wp2_with fail
              go_round
              case rel => exact ⟨k + 1, by omega, by go_num, by rw [e1.out]; simp, by rw [e2.out]⟩
              case measure => simp [intOf]; omega
    · obtain rfl : k = m.states.length := by omega
      have i1 : ¬ (↑m.states.length : Int) < ↑m.states.length := by omega
      have y5 := Y4.out.blk.cell; have yl5 := Y4.out.blk.lt
      go_wp2_with fail
      clear y5 yl5
      have bx : Below w.heap.size w w5 := b4a
      refine (Count_any _ t _ Y4.out.mach HT.out).mono ?_; rintro e w6 ⟨rfl, r6⟩
      rw [HCT.out, HCA.out]
      have X6 := Lib.hid (X4.out.step r6)
      have b6 : Below w.heap.size w w6 := bx.trans (r6.mono bx.size)
      have k6 := X6.out.blk.cell; have l6 := X6.out.blk.lt
      have ka := (HA4.out.step r6).cell m.start.toNat; have la6 := (HA4.out.step r6).lt
      rw [bcells_get' _ _ (by rw [HAL.out]; omega), HSA.out] at ka
      obtain ⟨p, hpq⟩ : ∃ p : Nat, m.start = p := ⟨m.start.toNat, by omega⟩
      clear k5 l5 la lb r6
      have p0 : (0 : Int) ≤ ↑p := by omega
      have p1 : (↑p : Int) < ↑m.states.length := by omega
      have hp2 : m.start.toNat = p := by omega
      rw [hp2] at ka
      rw [hpq] at k6
      clear hp2
      go_wp2_with fail
      go_ret
      exact ⟨rfl, b6.alloc b6.size _⟩
end trimDrops
end Go.Proofs.Ytkfhefefhnmljaa
