/- reach.Trim. -/
import Derived.Test.YtlfjccgbngnjhaaBack
import Derived.Test.YtlfjccgbngnjhaaTrimPlain
import Derived.Test.YtlfjccgbngnjhaaBuild
import Derived.BigGuardPart
namespace Go.Proofs.Ytlfjccgbngnjhaa
open Go.RowKit

abbrev ints (l : List Int) : Array Value := (icells l).toArray
theorem ints_get (l : List Int) (p : Nat) {v : Int} (h : l[p]? = some v) : (ints l)[p]? = some (.int .i64 v) := by simp [ints, h]
theorem ints_set (l : List Int) (p : Nat) (v : Int) : (ints l).setIfInBounds p (.int .i64 v) = ints (l.set p v) := by simp [ints, List.map_set]
theorem bcells_get' (l : List Bool) (p : Nat) (h : p < l.length) : (bcells l)[p]? = some (.bool (l.getD p false)) := by
  simp [bcells, h, List.getD_eq_getElem?_getD]

/-- rows that lie apart -/
def ApartAll (vs : List Value) : Prop := ∀ i j (hi : i < vs.length) (hj : j < vs.length), i ≠ j → vs[i].ownBlock = none ∨ vs[i].ownBlock ≠ vs[j].ownBlock
theorem ApartAll.nil : ApartAll [] := fun i j hi => absurd hi (by simp)
theorem ApartAll.app {w w' : World} {B C : Nat} {vs : List Value} {sv av : Value} {ss : List StateL} {l : List ArcL} (h : ApartAll vs) (ho : OwnStV w B sv vs ss) (ha : OwnArcs w' C av l) (hC : w.heap.size ≤ C) : ApartAll (vs ++ [av]) := by
  have key : ∀ i (hi : i < vs.length) b, vs[i].ownBlock = some b → av.ownBlock ≠ some b := fun i hi b hb e => by
    have h1 := ho.arcs i (by have := ho.len; omega) hi
    have h2 : b < w.heap.size := by
      rcases Nat.lt_or_ge b w.heap.size with h3 | h3
      · exact h3
      · exact absurd hb (own_lt h1 h3)
    exact own_base ha (by omega) e
  intro i j hi hj hne
  simp only [List.length_append, List.length_singleton] at hi hj
  by_cases h1 : i < vs.length
  · rw [List.getElem_append_left h1]
    by_cases h2 : j < vs.length
    · rw [List.getElem_append_left h2]; exact h i j h1 h2 hne
    · obtain rfl : j = vs.length := by omega
      rw [List.getElem_append_right (by omega)]
      simp only [Nat.sub_self, List.getElem_cons_zero]
      cases hb : vs[i].ownBlock with
      | none => exact .inl rfl
      | some b => exact .inr fun e => key i h1 b hb e.symm
  · obtain rfl : i = vs.length := by omega
    rw [List.getElem_append_right (by omega)]
    simp only [Nat.sub_self, List.getElem_cons_zero]
    have h2 : j < vs.length := by omega
    rw [List.getElem_append_left h2]
    cases hb : vs[j].ownBlock with
    | none =>
      cases ha : av.ownBlock with
      | none => exact .inl rfl
      | some b => exact .inr (by simp)
    | some b => exact .inr (key j h2 b hb)
/-- a machine of the call's own, the rows of whose arcs lie apart -/
def OwnMachA (w : World) (B : Nat) (v : Value) (m : MachL) : Prop := ∃ sv vs, v = .agg #[.int .i64 m.start, sv] ∧ OwnStV w B sv vs m.states ∧ ApartAll vs
theorem OwnMachA.own {w : World} {B : Nat} {v : Value} {m : MachL} (h : OwnMachA w B v m) : OwnMach w B v m := by
  obtain ⟨sv, vs, hv, h, -⟩ := h
  exact ⟨sv, hv, vs, h⟩
set_option maxRecDepth 100000 in
set_option maxHeartbeats 8000000 in
theorem Trim_anyA (v : Value) (m : MachL) (w : World) (hm : MachAt w v m) (hv : Valid m) :
    Calls Try.prog 17 #[v] w fun e w' => ∃ mv, e = .returned (.tuple #[mv, .int .i64 0]) ∧ OwnMachA w' w.heap.size mv (trimM m) ∧ Below w.heap.size w w' := by
  have AH := Lib.hid (fun W hb => Ahead_any v m W (hm.below hb) hv)
  have BH := Lib.hid (fun W hb => Back_any v m W (hm.below hb) hv)
  have hto := Lib.hid (valid_to hv).1
  have hle := Lib.hid (valid_to hv).2
  have hkl := keepOf_len m
  have HKG := Lib.hid (fun sa sb ha hb q h => keepOf_get m (sa := sa) (sb := sb) ha hb q h)
  obtain ⟨A, c, rfl, hS⟩ := hm
  have hsz := hv.size
  have hs0 := hv.s0
  have hs1 := hv.s1
  have har := hv.arcs
  have HS := Lib.hid hS
  have rd := hS.rdy
  have hT : trimM m = trimMach (keepOf m) m := rfl
  have hTM : trimMach (keepOf m) m = ⟨if 0 ≤ m.start then num (keepOf m) m.start.toNat else -1, trimStates (keepOf m) m.states m.states.length⟩ := rfl
  rw [hTM] at hT
  have HT := Lib.hid hT
  clear hS hv hT hTM
  generalize keepOf m = K at *
  generalize m.states = ss at *
  generalize m.start = st at *
  go_enter Try.func17, Try.ntmps17
  go_wp2_with fail
  refine (AH.out _ (by repeat' (first | exact Below.refl _ _ | assumption | refine Below.drew ?_ | refine Below.alloc ?_ (by first | omega | (simp; done) | (simp; omega)) _ | refine Below.setCell ?_ (by first | omega | (simp; done) | (simp; omega)) _))).mono ?_
  rintro e w1 ⟨sv1, rfl, ⟨⟨ba, sa, rfl, hA, hba, hal, har2⟩⟩, bel⟩
  have M1 : Hid (Blk w1 w.heap.size #[.int .i64 st, .slice A ss.length c] 27) := Lib.hid (Blk.step ((Blk.new' (by simp)).alloc _) bel)
  have R1 : Hid (Blk w1 (w.heap.size + 1) #[.int .i64 0, .slice none 0 0] 27) := Lib.hid (Blk.step (Blk.new' (by simp)) bel)
  have b1 : Below w.heap.size w w1 := ((by repeat' (first | exact Below.refl _ _ | assumption | refine Below.drew ?_ | refine Below.alloc ?_ (by first | omega | (simp; done) | (simp; omega)) _ | refine Below.setCell ?_ (by first | omega | (simp; done) | (simp; omega)) _)) : Below w.heap.size w _).trans (bel.mono (by simp; omega))
  have HA := Lib.hid hA; have HAR := Lib.hid har2
  have k1 := M1.out.cell; have l1 := M1.out.lt
  clear hA har2 bel AH
  go_wp2_with fail
  refine (BH.out _ b1).mono ?_
  rintro e w2 ⟨sv2, rfl, ⟨⟨bb, sb, rfl, hB, hbb, hbl, hbr⟩⟩, bel⟩
  have M2 := Lib.hid (M1.out.step bel)
  have R2 := Lib.hid (R1.out.step bel)
  have HA2 := Lib.hid (HA.out.step bel)
  have HB2 := Lib.hid hB
  have b2 : Below w.heap.size w w2 := b1.trans (bel.mono b1.size)
  have HKQ := Lib.hid (HKG.out sa sb HAR.out hbr)
  have k2 := M2.out.cell; have l2 := M2.out.lt
  clear hB hbr bel BH k1 l1 HKG M1 R1 HA
  have hmk := run_make_elt eltInt w2 ss.length (by omega) (by omega) (by omega)
  simp only [Value.cells, Nat.mul_one, made_at, List.toArray_replicate] at hmk
  go_wp2_with fail
  have HKL := Lib.hid hkl; have HAL := Lib.hid hal; have HBL := Lib.hid hbl
  have N0 : Blk (w2.alloc (.cells (Array.replicate ss.length (.int .i64 0)) 3)) w2.heap.size (ints (numsUpto K ss.length 0)) 3 := (Blk.new _ _ _).eq (by simp [ints, numsUpto])
  have B0 : Below w2.heap.size w2 (w2.alloc (.cells (Array.replicate ss.length (.int .i64 0)) 3)) := (Below.refl _ _).alloc (Nat.le_refl _) _
  generalize w2.alloc (.cells (Array.replicate ss.length (.int .i64 0)) 3) = wl at *
  have la2 := HA2.out.lt; have lb2 := HB2.out.lt; have lr2 := R2.out.lt
  clear hmk hkl hal hbl
  go_loopw [9, 38] (fun many i wr => ∃ k : Nat, k ≤ ss.length ∧ i = .int .i64 k ∧ many = .int .i64 ((K.take k).count true : Nat) ∧ Blk wr w2.heap.size (ints (numsUpto K ss.length k)) 3 ∧ Below w2.heap.size w2 wr) (fun _ i _ => ss.length - (intOf i).toNat)
  case atStart => exact ⟨0, by omega, rfl, by simp, N0, B0⟩
  case round =>
    obtain ⟨k, hk, rfl, rfl, hN, bel⟩ := hrel
    have lN := hN.lt
    by_cases hlt : k < ss.length
    · have hcl := count_le K k
      have hns := num_snoc K k (by rw [HKL.out]; exact hlt)
      have hK := HKQ.out k hlt
      have hset := numsUpto_set K ss.length k hlt
      have hnk : num K k = if K.getD k false = true then (((K.take k).count true : Nat) : Int) else -1 := rfl
      have a1 := HA2.out.below bel la2; have a2 := HB2.out.below bel lb2
      have ka := a1.cell k; have kb := a2.cell k
      rw [bcells_get' _ _ (by rw [HAL.out]; exact hlt)] at ka
      rw [bcells_get' _ _ (by rw [HBL.out]; exact hlt)] at kb
      have ja := a1.lt; have jb := a2.lt
      have na : ba ≠ w2.heap.size := Nat.ne_of_lt la2
      have nb : bb ≠ w2.heap.size := Nat.ne_of_lt lb2
      have kN := hN.cell k; have kF := hN.froz
      obtain ⟨v0, hv0⟩ : ∃ v0, (numsUpto K ss.length k)[k]? = some v0 := ⟨_, List.getElem?_eq_getElem (by rw [numsUpto_len _ _ _ hk]; exact hlt)⟩
      rw [ints_get _ _ hv0] at kN
      have HN := Lib.hid hN
      have i0 : (0 : Int) ≤ ↑k := by omega
      have i1 : (↑k : Int) < ↑ss.length := by omega
      generalize sa.getD k false = xa at *
      generalize sb.getD k false = xb at *
      generalize hct : (K.take k).count true = ct at *
      have HST := Lib.hid hset; have HNK := Lib.hid hnk; have HNS := Lib.hid hns; have HK := Lib.hid hK
      clear hset hnk hns hK hv0 hN a1 a2 hct
      cases xa
      · have e1 : Hid (num K k = -1) := Lib.hid (by rw [HNK.out, HK.out]; simp)
        have e2 : Hid ((K.take (k + 1)).count true = ct) := Lib.hid (by rw [HNS.out, HK.out]; simp)
        go_wp2_with fail
        go_roundw
        case rel => exact ⟨k + 1, by omega, by go_num, by rw [e2.out], by rw [← HST.out, e1.out, ← ints_set]; exact HN.out.put k _, bel.setCell (Nat.le_refl _) _⟩
        case measure => simp [intOf]; omega
      · cases xb
        · have e1 : Hid (num K k = -1) := Lib.hid (by rw [HNK.out, HK.out]; simp)
          have e2 : Hid ((K.take (k + 1)).count true = ct) := Lib.hid (by rw [HNS.out, HK.out]; simp)
          go_wp2_with fail
          go_roundw
          case rel => exact ⟨k + 1, by omega, by go_num, by rw [e2.out], by rw [← HST.out, e1.out, ← ints_set]; exact HN.out.put k _, bel.setCell (Nat.le_refl _) _⟩
          case measure => simp [intOf]; omega
        · have e1 : Hid (num K k = ct) := Lib.hid (by rw [HNK.out, HK.out]; simp)
          have e2 : Hid ((K.take (k + 1)).count true = ct + 1) := Lib.hid (by rw [HNS.out, HK.out]; simp)
          go_wp2_with fail
          go_roundw
          case rel =>
            refine ⟨k + 1, by omega, by go_num, by rw [e2.out]; go_num, ?_, (bel.setCell (Nat.le_refl _) _).setCell (Nat.le_refl _) _⟩
            have hp := (HN.out.put k (.int .i64 (-1))).put k (.int .i64 ct)
            rw [ints_set, ints_set, List.set_set] at hp
            rw [← HST.out, e1.out]
            exact hp
          case measure => simp [intOf]; omega
    · have hke : k = ss.length := by omega
      subst hke
      obtain ⟨w3, rfl⟩ : ∃ wx : World, wx = wr := ⟨_, rfl⟩
      have M3 := Lib.hid (M2.out.below bel l2)
      have R3 := Lib.hid (R2.out.below bel lr2)
      have b3 : Below w.heap.size w w3 := b2.trans (bel.mono b2.size)
      have HN := Lib.hid hN
      have k3 := M3.out.cell; have l3 := M3.out.lt
      have hN2 := fun q (h : q < ss.length) => (hN.cell q).trans (ints_get _ _ (numsUpto_get K ss.length q h))
      have HNC := Lib.hid hN2
      clear hN hN2 hk hlt bel HA2 HB2 M2 R2 HAL HBL k2 N0 B0 HKQ la2 lb2
      go_upto_if 64 with fail
      have g1 : st < 0 ∨ 0 ≤ st := by omega
      go_cut [] (fun wx => Blk wx w3.heap.size #[.int .i64 (if 0 ≤ st then num K st.toNat else -1), .slice none 0 0] 27 ∧ Below w3.heap.size w3 wx)
      case first =>
        by_cases hst : 0 ≤ st
        · have hsn : st.toNat < ss.length := by omega
          have hc := HNC.out st.toNat hsn
          have e1 : (if 0 ≤ st then num K st.toNat else -1) = num K st.toNat := if_pos hst
          have E1 := Lib.hid e1
          have hif : ¬ st < 0 := by omega
          clear e1
          go_wp2_with fail
          go_meet
          case rel => exact ⟨by rw [E1.out]; exact Blk.new' rfl, (Below.refl _ _).alloc (Nat.le_refl _) _⟩
        · have e1 : (if 0 ≤ st then num K st.toNat else -1) = -1 := if_neg hst
          have E1 := Lib.hid e1
          clear e1
          go_wp2_with fail
          go_meet
          case rel => exact ⟨by rw [E1.out]; exact Blk.new' rfl, (Below.refl _ _).alloc (Nat.le_refl _) _⟩
      case rest =>
        obtain ⟨wl2, rfl⟩ : ∃ wx : World, wx = wc := ⟨_, rfl⟩
        obtain ⟨hO, bO⟩ := hcut
        have E0 := HT.out
        generalize (if 0 ≤ st then num K st.toNat else -1) = stv at *
        have HT2 := Lib.hid E0
        have M4 := Lib.hid (M3.out.step bO)
        have R4 := Lib.hid (R3.out.step bO)
        have N4 := Lib.hid (HN.out.step bO)
        have k4 := M4.out.cell; have l4 := M4.out.lt
        have lO := hO.lt
        have bw4 : Below w.heap.size w wl2 := b3.trans (bO.mono b3.size)
        have z3 := b3.size
        have lN3 := HN.out.lt
        have nO : w2.heap.size ≠ w3.heap.size := Nat.ne_of_lt lN3
        have nR : w.heap.size + 1 ≠ w3.heap.size := Nat.ne_of_lt R3.out.lt
        have M0 : MB wl2 wl2 w3.heap.size stv (.slice none 0 0) [] (trimStates K ss 0) := by
          have h1 := hO.cell; have h2 := hO.froz
          refine MB.start ?_ ?_ (h2 _) (h2 _)
          · rw [h1]; rfl
          · rw [h1]; rfl
        clear hO bO HNC HN M3 R3 k3 l3 E0 HT
        go_wp2_with fail
        clear k4
        go_loopw [74] (fun i wr => ∃ (k : Nat) (sv : Value) (vs : List Value), k ≤ ss.length ∧ i = .int .i64 k ∧ MB wl2 wr w3.heap.size stv sv vs (trimStates K ss k) ∧ ApartAll vs) (fun i _ => ss.length - (intOf i).toNat)
        case atStart => exact ⟨0, _, _, by omega, rfl, M0, ApartAll.nil⟩
        case round =>
          obtain ⟨k, sv, vs, hk, rfl, hM, hap⟩ := hrel
          have HAP := Lib.hid hap; clear hap
          have HM := Lib.hid hM
          have bw : Below w.heap.size w wr := hM.below bw4 z3
          have hNr := (N4.out.grown hM.grown (by simpa using nO))
          by_cases hlt : k < ss.length
          · have hSr := HS.out.below bw (Nat.le_refl _)
            have d0 := hSr.c0 k hlt
            obtain ⟨A', c', d1', hA'⟩ := HS.out.c1 k hlt
            have d1 := cell_keep bw (Nat.le_refl _) d1'
            have lA : blk A < wr.heap.size := World.block_lt_of_cell? _ _ d0
            have hts := trimStates_snoc K ss HKL.out k hlt
            have htl := trimStates_len K ss HKL.out k hk
            have hcl := count_le K k
            have hvs := hto.out _ (List.getElem_mem hlt)
            have hls := hle.out _ (List.getElem_mem hlt)
            have hnc := (hNr.cell k).trans (ints_get _ _ (numsUpto_get K ss.length k hlt))
            have hnk : num K k = if K.getD k false = true then (((K.take k).count true : Nat) : Int) else -1 := rfl
            have lN := hNr.lt
            generalize ss[k] = s at *
            have HA : Hid (ArcsAt w A' s.arcs) := Lib.hid hA'
            have rdA := hA'.rdy
            have HTS := Lib.hid hts; have HTL := Lib.hid htl; have HVS := Lib.hid hvs; have HNK := Lib.hid hnk
            have HNR := Lib.hid hNr
            have i0 : (0 : Int) ≤ ↑k := by omega
            have i1 : (↑k : Int) < ↑ss.length := by omega
            clear hSr hA' d1' hts htl hvs hnk hM hNr
            obtain ⟨wo, rfl⟩ : ∃ wo : World, wo = wr := ⟨_, rfl⟩
            by_cases hK : K.getD k false = true
            · have e1 : num K k = (((K.take k).count true : Nat) : Int) := by rw [HNK.out, if_pos hK]
              have e2 : Hid (trimStates K ss (k + 1) = trimStates K ss k ++ [trimState K s]) := Lib.hid (by rw [HTS.out, if_pos hK])
              have e3 : (0 : Int) ≤ num K k := by omega
              generalize num K k = nk at *
              clear hK e1 HNK
              go_wp2_with fail
              have A0 : AB ((wo.alloc (.cells #[.int .i64 s.final, .slice A' s.arcs.length c'] 39)).alloc (.cells #[.int .i64 s.final, .slice none 0 0] 39)) _ (wo.heap.size + 1) s.final _ (trimArcs K (s.arcs.take 0)) := AB.start (by simp [go_sem]) (by simp [go_sem]) (by simp [go_sem]) (by simp [go_sem])
              have b5 : Below wo.heap.size wo ((wo.alloc (.cells #[.int .i64 s.final, .slice A' s.arcs.length c'] 39)).alloc (.cells #[.int .i64 s.final, .slice none 0 0] 39)) := (by repeat' (first | exact Below.refl _ _ | assumption | refine Below.drew ?_ | refine Below.alloc ?_ (by first | omega | (simp; done) | (simp; omega)) _ | refine Below.setCell ?_ (by first | omega | (simp; done) | (simp; omega)) _))
              have bwo2 : wl2.heap.size ≤ ((wo.alloc (.cells #[.int .i64 s.final, .slice A' s.arcs.length c'] 39)).alloc (.cells #[.int .i64 s.final, .slice none 0 0] 39)).heap.size := by have := HM.out.grown.size; simp; omega
              have N5 := Lib.hid (HNR.out.step b5)
              have l5 : w2.heap.size < wo.heap.size + 1 := by omega
              have B5S := Lib.hid b5.size
              generalize ((wo.alloc (.cells #[.int .i64 s.final, .slice A' s.arcs.length c'] 39)).alloc (.cells #[.int .i64 s.final, .slice none 0 0] 39)) = w5 at *
              go_loopw [90] (fun i wi => ∃ (t : Nat) (av : Value), t ≤ s.arcs.length ∧ i = .int .i64 t ∧ AB w5 wi (wo.heap.size + 1) s.final av (trimArcs K (s.arcs.take t))) (fun i _ => s.arcs.length - (intOf i).toNat)
              case atStart => exact ⟨0, _, by omega, rfl, A0⟩
              case round =>
                obtain ⟨t, av, ht, rfl, hI⟩ := hrel
                obtain ⟨wi, rfl⟩ : ∃ wi : World, wi = wr := ⟨_, rfl⟩
                have HI := Lib.hid hI
                have bwi := hI.below b5 (by omega)
                have m1 := hI.lt
                have hNi := N5.out.grown hI.grown (by simp; omega)
                have hal := trimArcs_len K (s.arcs.take t)
                rw [List.length_take] at hal
                by_cases hlt2 : t < s.arcs.length
                · have hAr := HA.out.below (bw.trans (bwi.mono bw.size)) (Nat.le_refl _)
                  have f0 := hAr.c0 t hlt2; have f1 := hAr.c1 t hlt2; have f2 := hAr.c2 t hlt2; have f3 := hAr.c3 t hlt2
                  have hva := HVS.out _ (List.getElem_mem hlt2)
                  have hsn := trimArcs_snoc K s.arcs t hlt2
                  generalize s.arcs[t] = a at *
                  obtain ⟨q, hq⟩ : ∃ q : Nat, a.to = q := ⟨a.to.toNat, by omega⟩
                  have hq2 : a.to.toNat = q := by omega
                  have hqn : q < ss.length := by omega
                  rw [hq] at f3
                  rw [hq2] at hsn
                  have hna : numArc K a = ⟨a.inn, a.out, a.wt, num K q⟩ := by unfold numArc; rw [hq2]
                  have hnc := (hNi.cell q).trans (ints_get _ _ (numsUpto_get K ss.length q hqn))
                  have hnq : num K q = if K.getD q false = true then (((K.take q).count true : Nat) : Int) else -1 := rfl
                  have lA' := World.block_lt_of_cell? _ _ f0
                  have lNi := hNi.lt
                  have HSN := Lib.hid hsn; have HNQ := Lib.hid hnq; have HNA := Lib.hid hna
                  have j0 : (0 : Int) ≤ ↑q := by omega
                  have j1 : (↑q : Int) < ↑ss.length := by omega
                  have i1' := hI.s1; have i3 := hI.f1
                  have nW : wi.heap.size ≠ w2.heap.size := by omega
                  clear hAr hva hsn hq hq2 hna hnq hI hNi
                  by_cases hKq : K.getD q false = true
                  · have e4 : (0 : Int) ≤ num K q := by rw [HNQ.out, if_pos hKq]; omega
                    have e5 : Hid (trimArcs K (s.arcs.take (t + 1)) = trimArcs K (s.arcs.take t) ++ [⟨a.inn, a.out, a.wt, num K q⟩]) := Lib.hid (by rw [HSN.out, if_pos hKq, HNA.out])
                    clear hKq HNQ HSN
                    have HI4 := Lib.hid (HI.out.keep ((Below.refl _ _).alloc (Nat.le_refl _) (.cells #[.int .i64 a.inn, .int .i64 a.out, .int .i64 a.wt, .int .i64 (num K q)] 42)))
                    go_wp2_with (at_builtin; refine wpList_app1 rfl _ _ rfl eltArc w5.heap.size av _ _ rfl (wi.alloc (.cells #[.int .i64 a.inn, .int .i64 a.out, .int .i64 a.wt, .int .i64 (num K q)] 42)) HI4.out.own #[.int .i64 a.inn, .int .i64 a.out, .int .i64 a.wt, .int .i64 (num K q)] rfl (wi.heap.size + 1) (by simp) rfl rfl (by simp [Value.oneCell']) (by omega) (by omega) (by have := HI4.out.grown.size; simpa using this) ?_; intro g3 cap w6 hown6 hg6 hat6 hlt6; obtain ⟨z1, z2, z3'⟩ := HI4.out.far hg6)
                    have hz := HI4.out.app ⟨a.inn, a.out, a.wt, num K q⟩ rfl hg6 hown6
                    rw [← e5.out] at hz
                    have HZ := Lib.hid hz
                    clear hz hown6 hg6
                    go_roundw
                    case rel => exact ⟨t + 1, _, by omega, by go_num, HZ.out⟩
                    case measure => simp [intOf]; omega
                  · have e4 : num K q < 0 := by rw [HNQ.out, if_neg hKq]; omega
                    have e5 : Hid (trimArcs K (s.arcs.take (t + 1)) = trimArcs K (s.arcs.take t)) := Lib.hid (by rw [HSN.out, if_neg hKq])
                    clear hKq HNQ HSN
                    go_wp2_with fail
                    go_roundw
                    case rel => exact ⟨t + 1, av, by omega, by go_num, by rw [e5.out]; exact HI.out.keep ((Below.refl _ _).alloc (Nat.le_refl _) _)⟩
                    case measure => simp [intOf]; omega
                · have hte : s.arcs.take t = s.arcs := List.take_of_length_le (by omega)
                  rw [hte] at HI
                  have hMi := HM.out.keep bwi
                  have HMi := Lib.hid hMi
                  have hRow := hMi.own.row
                  have HRW := Lib.hid hRow
                  have i0' := hI.s0; have i1' := hI.s1
                  have z1 := hMi.m1; have z2 := hMi.f1; have z3' := hMi.lt
                  have zs := hMi.grown.size
                  have hq1 : (trimStates K ss k).length + 1 ≤ 1000000 := by rw [HTL.out]; omega
                  clear hRow hte hI hMi hNi hal
                  go_wp2_with (at_builtin; refine wpList_app1 rfl _ _ rfl eltState wl2.heap.size sv _ _ rfl wi HRW.out #[.int .i64 s.final, av] rfl wi.heap.size rfl rfl rfl (by obtain ⟨A9, c9, h9, -, -⟩ := HI.out.form; rw [h9]; simp [Value.oneCell']) hq1 (by omega) zs ?_; intro g4 cap w7 hown4 hg4 hat4 hlt4; obtain ⟨y1, y2, y3⟩ := HMi.out.far hg4)
                  have hM2 := HMi.out.app (trimState K s) (HI.out.own.mono (by have := bwo2; omega)) rfl hg4 hown4
                  rw [← e2.out] at hM2
                  have HM2 := Lib.hid hM2
                  have HAP2 := Lib.hid (HAP.out.app HM.out.own HI.out.own (by have := B5S.out; omega))
                  clear hM2 hown4 hg4
                  go_roundw
                  case rel => exact ⟨k + 1, _, _, by omega, by go_num, HM2.out, HAP2.out⟩
                  case measure => simp [intOf]; omega
            · have e1 : num K k = -1 := by rw [HNK.out, if_neg hK]
              have e2 : Hid (trimStates K ss (k + 1) = trimStates K ss k) := Lib.hid (by rw [HTS.out, if_neg hK])
              rw [e1] at hnc
              clear hK e1
              go_wp2_with fail
              go_roundw
              case rel => exact ⟨k + 1, sv, vs, by omega, by go_num, by rw [e2.out]; exact HM.out.keep ((Below.refl _ _).alloc (Nat.le_refl _) _), HAP.out⟩
              case measure => simp [intOf]; omega
          · have hke : k = ss.length := by omega
            subst hke
            obtain ⟨A', c', rfl, -, -⟩ := HM.out.form
            have hR := R4.out.grown HM.out.grown (by simpa using nR)
            have k8 := hR.cell; have k9 := hR.froz; have l8 := hR.lt
            have z0 := HM.out.m0; have z1 := HM.out.m1
            have hgr2 := HM.out.lt
            have hne : w3.heap.size ≠ w.heap.size + 1 := fun e => nR e.symm
            have h2 := b2.size
            clear hM hNr hR hk hlt N4 R4 M4 M0
            generalize hsl : (trimStates K ss ss.length).length = n' at *
            have HSL := Lib.hid hsl
            clear hsl
            go_wp2_with fail
            refine bodyPost_ret (v := .tuple #[.agg #[.int .i64 stv, .slice A' n' c'], .int .i64 0]) (by simp [results, Try.results17, go_sem, *]) rfl ⟨_, rfl, ?_, ?_⟩
            · rw [HT2.out]
              exact ⟨_, vs, rfl, ((HM.out.own.setCell (a := ⟨w.heap.size + 1, 0, none⟩) (show w.heap.size + 1 < wl2.heap.size by omega) _).setCell (a := ⟨w.heap.size + 1, 1, none⟩) (show w.heap.size + 1 < wl2.heap.size by omega) _).mono (by omega), HAP.out⟩
            · exact (bw.setCell (by simp) _).setCell (by simp) _
theorem Trim_any (v : Value) (m : MachL) (w : World) (hm : MachAt w v m) (hv : Valid m) :
    Calls Try.prog 17 #[v] w fun e w' => ∃ mv, e = .returned (.tuple #[mv, .int .i64 0]) ∧ OwnMach w' w.heap.size mv (trimM m) ∧ Below w.heap.size w w' := by
  refine (Trim_anyA v m w hm hv).mono ?_
  rintro e w' ⟨mv, rfl, h, b⟩
  exact ⟨mv, rfl, h.own, b⟩
end Go.Proofs.Ytlfjccgbngnjhaa
