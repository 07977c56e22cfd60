/- packed.Encode. -/
import Derived.Test.YtajbfhdkghofbaaGreatDoorPut
import Derived.Test.YtajbfhdkghofbaaGreatDoorPackEnc
import Derived.Test.YtajbfhdkghofbaaGreatDoorCheck
import Derived.Deep.RegionHeld3
import Derived.Deep.DeepCutAuto
namespace Go.Proofs.YtajbfhdkghofbaaGreatDoor
open Go.RowKit

theorem bytes_new (w : World) (B : Nat) (hB : B ≤ w.heap.size) (a b c : Int) : Bytes (w.alloc (.cells #[.int .u8 a, .int .u8 b, .int .u8 c] 5)) B (.slice (some ⟨w.heap.size, 0, none⟩) 3 3) [a, b, c] :=
  ⟨by simp [ucells], .inr ⟨w.heap.size, 3, #[.int .u8 a, .int .u8 b, .int .u8 c], rfl, hB, heap_alloc_new w _, by simp, by simp [maxLen], rfl, rfl⟩⟩
theorem Bytes.others {w w' : World} {B : Nat} {v : Value} {l : List Int} (h : Bytes w B v l) (hb : Below w.heap.size w w') : Bytes w' B v l := own_below h hb (Nat.le_refl _)
/-- bytes that may be -/
def BOk (l : List Int) : Prop := ∀ c ∈ l, 0 ≤ c ∧ c < 256
theorem BOk.put {l : List Int} (h : BOk l) (n : Int) (k : Nat) : BOk (l ++ putL n k) := fun c hc => by
  rcases List.mem_append.1 hc with hc | hc
  · exact h c hc
  · exact putL_b n k c hc
/-- what Encode answers: bytes, and their sum behind them -/
def EncR (w w' : World) (v : Value) : Prop := ∃ body hi lo, Bytes w' w.heap.size v (body ++ [hi, lo]) ∧ BOk body ∧ 0 ≤ hi ∧ hi < 256 ∧ 0 ≤ lo ∧ lo < 256 ∧ 3 ≤ body.length ∧ body.length ≤ 4000 ∧ ((crcOf 0xffff#16 body).toNat : Int) = hi * 256 + lo

/-- the same, the bytes told -/
def EncF (w w' : World) (v : Value) (m : MachL) : Prop := ∃ hi lo, Bytes w' w.heap.size v (encM m ++ [hi, lo]) ∧ BOk (encM m) ∧ 0 ≤ hi ∧ hi < 256 ∧ 0 ≤ lo ∧ lo < 256 ∧ 3 ≤ (encM m).length ∧ (encM m).length ≤ 4000 ∧ ((crcOf 0xffff#16 (encM m)).toNat : Int) = hi * 256 + lo
theorem EncF.r {w w' : World} {v : Value} {m : MachL} (h : EncF w w' v m) : EncR w w' v := by
  obtain ⟨hi, lo, h⟩ := h; exact ⟨_, hi, lo, h⟩

set_option maxRecDepth 100000 in
set_option maxHeartbeats 8000000 in
theorem Encode_full (v : Value) (m : MachL) (w : World) (hm : MachAt w v m) (hv : Valid m) :
    Calls Tryz.prog 7 #[v] w fun e w' => ∃ bv, e = .returned (.tuple #[bv, .int .i64 0]) ∧ EncF w w' bv m ∧ Below w.heap.size w w' := by
  have CH := Lib.hid (fun W (hb : Below w.heap.size w W) => Check_ok v m W (hm.below hb) hv)
  obtain ⟨A, c, rfl, hS⟩ := hm
  have hsz := hv.size; have hs0 := hv.s0; have hs1 := hv.s1; have har := hv.arcs
  have HS := Lib.hid hS; have HV := Lib.hid hv
  have HE0 := Lib.hid (encB_zero m); have HEA := Lib.hid (encB_all m)
  have HEI := Lib.hid (fun q h => encI_all m q h)
  have rd := hS.rdy
  have HTK := Lib.hid (fun k (hk : k < m.states.length) => arcsOf_take m.states k hk)
  have HTL := Lib.hid (fun k => arcsOf_le m.states k)
  clear hS hv
  generalize hst : m.start = st at *
  have HSTA := Lib.hid hst; clear hst
  go_enter Tryz.func7, Tryz.ntmps7
  go_wp2_with fail
  refine (CH.out _ (by repeat' (first | exact Below.refl _ _ | assumption | refine Below.drew ?_ | refine Below.alloc ?_ (by first | omega | (simp; done) | (simp; omega)) _ | refine Below.setCell ?_ (by first | omega | (simp; done) | (simp; omega)) _))).mono ?_; rintro e w1 ⟨rfl, r1⟩
  have M1 : Blk w1 w.heap.size #[.int .i64 st, .slice A m.states.length c] 27 := Blk.step (Blk.new' rfl) r1
  have b1 : Below w.heap.size w w1 := ((by repeat' (first | exact Below.refl _ _ | assumption | refine Below.drew ?_ | refine Below.alloc ?_ (by first | omega | (simp; done) | (simp; omega)) _ | refine Below.setCell ?_ (by first | omega | (simp; done) | (simp; omega)) _)) : Below w.heap.size w _).trans (r1.mono (by simp))
  have k1 := M1.cell; have l1 := M1.lt
  have HM1 := Lib.hid M1
  clear r1 CH M1
  go_wp2_with fail
  have B0 := bytes_new w1 w.heap.size b1.size 84 m.states.length (st + 1)
  have bel0 := b1.alloc b1.size (.cells #[.int .u8 84, .int .u8 m.states.length, .int .u8 (st + 1)] 5)
  have BO0 : BOk [84, (m.states.length : Int), st + 1] := fun c hc => by
    simp only [List.mem_cons, List.not_mem_nil, or_false] at hc
    omega
  generalize w1.alloc (.cells #[.int .u8 84, .int .u8 m.states.length, .int .u8 (st + 1)] 5) = w2 at *
  have HB0 := Lib.hid B0; have HBO0 := Lib.hid BO0
  clear k1 l1 B0 BO0 HM1
  go_loopw [27, 5] (fun kv bv wr => ∃ (q : Nat) (v : Value) (body : List Int), q ≤ m.states.length ∧ kv = .int .i64 q ∧ v = bv ∧ body = encB m q ∧ Bytes wr w.heap.size v body ∧ BOk body ∧ 3 ≤ body.length ∧ body.length ≤ 3 + 6 * q + 9 * arcsOf (m.states.take q) ∧ Below w.heap.size w wr) (fun kv _ _ => m.states.length - (intOf kv).toNat)
  case atStart => exact ⟨0, _, _, by omega, rfl, rfl, HE0.out.symm, HB0.out, HBO0.out, by simp, by simp [arcsOf], bel0⟩
  case round =>
    obtain ⟨q, bv, body, hq, rfl, rfl, hbe, hB, hbo, hb3, hbl, bel⟩ := hrel
    have HBE := Lib.hid hbe; clear hbe
    have HB := Lib.hid hB; have HBO := Lib.hid hbo
    have htl := HTL.out q
    clear hB hbo
    have i0 : (0 : Int) ≤ ↑q := by omega
    by_cases hlt : q < m.states.length
    · have i1 : (↑q : Int) < ↑m.states.length := by omega
      have hSr := HS.out.below bel (Nat.le_refl _)
      have d0 := hSr.c0 q hlt
      obtain ⟨A', c', d1', hA'⟩ := HS.out.c1 q hlt
      have d1 := cell_keep bel (Nat.le_refl _) d1'
      have hvs := HV.out.st _ (List.getElem_mem hlt)
      have hvf := hvs.1
      unfold ValidFinal at hvf
      have hal := HTK.out q hlt
      have htl1 := HTL.out (q + 1)
      have HVA := Lib.hid hvs.2; have HAL := Lib.hid hal
      have rdA := hA'.rdy
      have HA := Lib.hid hA'
      have HIZ := Lib.hid (encI_zero m q m.states[q]); have HIS := Lib.hid (fun t (h : t < m.states[q].arcs.length) => encI_succ m q m.states[q] t h); have HIA := Lib.hid (HEI.out q hlt)
      generalize m.states[q] = s at *
      have hf0 : 0 ≤ s.final := by omega
      have hf1 : s.final ≤ 4294967295 := by omega
      have has : s.arcs.length ≤ 400 := by omega
      have lA := World.block_lt_of_cell? _ _ d0
      clear hSr hvs hvf hal hA' d1'
      obtain ⟨wo, rfl⟩ : ∃ wo : World, wo = wr := ⟨_, rfl⟩
      go_upto_region 8 with fail
      have X5 : Blk (wo.alloc (.cells #[.int .i64 s.final, .slice A' s.arcs.length c'] 51)) wo.heap.size #[.int .i64 s.final, .slice A' s.arcs.length c'] 51 := Blk.new _ _ _
      have b5 : Below wo.heap.size wo (wo.alloc (.cells #[.int .i64 s.final, .slice A' s.arcs.length c'] 51)) := (Below.refl _ _).alloc (Nat.le_refl _) _
      have B5 := HB.out.others b5
      have bel5 := bel.trans (b5.mono bel.size)
      generalize wo.alloc (.cells #[.int .i64 s.final, .slice A' s.arcs.length c'] 51) = w5 at *
      generalize wo.heap.size = bs at *
      have KS : ∀ W, Blk W bs #[.int .i64 s.final, .slice A' s.arcs.length c'] 51 → Below w.heap.size w W → W.cell? ⟨bs, 0, none⟩ = some (.int .i64 s.final) ∧ W.cell? ⟨bs, 1, none⟩ = some (.slice A' s.arcs.length c') ∧ Blk W bs #[.int .i64 s.final, .slice A' s.arcs.length c'] 51 ∧ Below w.heap.size w W := fun W h1 h2 => ⟨h1.cell 0, h1.cell 1, h1, h2⟩
      have X5d : Blk w5.drew bs #[.int .i64 s.final, .slice A' s.arcs.length c'] 51 := X5.drew
      have B5d : Bytes w5.drew w.heap.size bv body := B5.drew
      have bel5d := bel5.drew
      have hbl8 : body.length ≤ 90000 := by omega
      have hl4 : (body ++ putL s.final 4).length ≤ 90000 := by rw [List.length_append, putL_len]; omega
      go_region_held3 (fun W => W.cell? ⟨bs, 0, none⟩ = some (.int .i64 s.final) ∧ W.cell? ⟨bs, 1, none⟩ = some (.slice A' s.arcs.length c') ∧ Blk W bs #[.int .i64 s.final, .slice A' s.arcs.length c'] 51 ∧ Below w.heap.size w W) (first | exact KS _ X5d bel5d | (exact KS _ (hot _ _ _ (by decide) (by go_split_ands; assumption)) bn)) (first | (go_at_call 17; (with_reducible show Calls Tryz.prog 17 #[bv, _, _] _ _); go_split_ands; refine (put_any w bv body s.final 4 _ (by omega) (by assumption) (by assumption) (by omega) hf0 hf1).mono ?_; rintro e wn ⟨v1, rfl, ho1, bn, hot⟩) | (go_at_call 17; go_split_ands; refine (put_any w v1 (body ++ putL s.final 4) s.arcs.length 2 _ (by omega) (by assumption) (by assumption) (by omega) (by omega) (by omega)).mono ?_; rintro e wn2 ⟨v2, rfl, ho2, bn, hot⟩))
      have X6 : Blk wn2 bs #[.int .i64 s.final, .slice A' s.arcs.length c'] 51 := by go_split_ands; assumption
      have k6 := X6.cell; have l6 := X6.lt
      have HB6 := Lib.hid ho2
      have HBO6 := Lib.hid ((HBO.out.put s.final 4).put s.arcs.length 2)
      have hbl6 : (body ++ putL s.final 4 ++ putL s.arcs.length 2).length = body.length + 6 := by rw [List.length_append, List.length_append, putL_len, putL_len]
      have HB6E : Hid (body ++ putL s.final 4 ++ putL s.arcs.length 2 = encI m q s 0) := Lib.hid (by rw [HIZ.out, HBE.out])
      generalize body ++ putL s.final 4 ++ putL s.arcs.length 2 = body6 at *
      have BEL6 := Lib.hid bn
      clear KS X5d B5d bel5d hl4 X5 B5 bel5 b5 ho1 ho2 hot d0 d1 lA X6 bn
      go_wp2_with fail
      clear k6 l6
      go_loopw [42, 5] (fun tv bv wr => ∃ (t : Nat) (v : Value) (body : List Int), t ≤ s.arcs.length ∧ tv = .int .i64 t ∧ v = bv ∧ body = encI m q s t ∧ Bytes wr w.heap.size v body ∧ BOk body ∧ 3 ≤ body.length ∧ body.length ≤ 9 + 6 * q + 9 * arcsOf (m.states.take q) + 9 * t ∧ Below w.heap.size w wr) (fun tv _ _ => s.arcs.length - (intOf tv).toNat)
      case atStart => exact ⟨0, _, _, by omega, rfl, rfl, HB6E.out, HB6.out, HBO6.out, by omega, by omega, BEL6.out⟩
      case round =>
        obtain ⟨t, cv, bod, ht, rfl, rfl, hbe, hB, hbo, hc3, hcl, bel⟩ := hrel
        have HBE2 := Lib.hid hbe; clear hbe
        have HC := Lib.hid hB; have HCO := Lib.hid hbo
        clear hB hbo
        have j0 : (0 : Int) ≤ ↑t := by omega
        have hal2 := HAL.out
        by_cases hlt2 : t < s.arcs.length
        · have j1 : (↑t : Int) < ↑s.arcs.length := by omega
          have hAr := HA.out.below bel (Nat.le_refl _)
          have f0 := hAr.c0 t hlt2; have f1 := hAr.c1 t hlt2; have f2 := hAr.c2 t hlt2; have f3 := hAr.c3 t hlt2
          have hva := HVA.out _ (List.getElem_mem hlt2)
          have HIT := Lib.hid (HIS.out t hlt2)
          generalize s.arcs[t] = a at *
          have g0 := hva.i0; have g1 := hva.i1; have g2 := hva.o0; have g3 := hva.o1; have g4 := hva.w0; have g5 := hva.w1; have g6 := hva.t0; have g7 := hva.t1
          have lA' := World.block_lt_of_cell? _ _ f0
          clear hAr hva
          obtain ⟨wi, rfl⟩ : ∃ wo : World, wo = wr := ⟨_, rfl⟩
          go_upto_region 12 with fail
          have X5 : Blk (wi.alloc (.cells #[.int .i64 a.inn, .int .i64 a.out, .int .i64 a.wt, .int .i64 a.to] 54)) wi.heap.size #[.int .i64 a.inn, .int .i64 a.out, .int .i64 a.wt, .int .i64 a.to] 54 := Blk.new _ _ _
          have b5 : Below wi.heap.size wi (wi.alloc (.cells #[.int .i64 a.inn, .int .i64 a.out, .int .i64 a.wt, .int .i64 a.to] 54)) := (Below.refl _ _).alloc (Nat.le_refl _) _
          have B5 := HC.out.others b5
          have bel5 := bel.trans (b5.mono bel.size)
          generalize wi.alloc (.cells #[.int .i64 a.inn, .int .i64 a.out, .int .i64 a.wt, .int .i64 a.to] 54) = w5 at *
          generalize wi.heap.size = bs2 at *
          have KS : ∀ W, Blk W bs2 #[.int .i64 a.inn, .int .i64 a.out, .int .i64 a.wt, .int .i64 a.to] 54 → Below w.heap.size w W → W.cell? ⟨bs2, 0, none⟩ = some (.int .i64 a.inn) ∧ W.cell? ⟨bs2, 1, none⟩ = some (.int .i64 a.out) ∧ W.cell? ⟨bs2, 2, none⟩ = some (.int .i64 a.wt) ∧ W.cell? ⟨bs2, 3, none⟩ = some (.int .i64 a.to) ∧ Blk W bs2 #[.int .i64 a.inn, .int .i64 a.out, .int .i64 a.wt, .int .i64 a.to] 54 ∧ Below w.heap.size w W := fun W h1 h2 => ⟨h1.cell 0, h1.cell 1, h1.cell 2, h1.cell 3, h1, h2⟩
          have X5d : Blk w5.drew bs2 #[.int .i64 a.inn, .int .i64 a.out, .int .i64 a.wt, .int .i64 a.to] 54 := X5.drew
          have B5d : Bytes w5.drew w.heap.size cv bod := B5.drew
          have bel5d := bel5.drew
          have q0 : bod.length ≤ 90000 := by omega
          have q1 : (bod ++ putL a.inn 2).length ≤ 90000 := by rw [List.length_append, putL_len]; omega
          have q2 : (bod ++ putL a.inn 2 ++ putL a.out 2).length ≤ 90000 := by rw [List.length_append, List.length_append, putL_len, putL_len]; omega
          have q3 : (bod ++ putL a.inn 2 ++ putL a.out 2 ++ putL a.wt 4).length ≤ 90000 := by rw [List.length_append, List.length_append, List.length_append, putL_len, putL_len, putL_len]; omega
          go_region_held3 (fun W => W.cell? ⟨bs2, 0, none⟩ = some (.int .i64 a.inn) ∧ W.cell? ⟨bs2, 1, none⟩ = some (.int .i64 a.out) ∧ W.cell? ⟨bs2, 2, none⟩ = some (.int .i64 a.wt) ∧ W.cell? ⟨bs2, 3, none⟩ = some (.int .i64 a.to) ∧ Blk W bs2 #[.int .i64 a.inn, .int .i64 a.out, .int .i64 a.wt, .int .i64 a.to] 54 ∧ Below w.heap.size w W) (first | exact KS _ X5d bel5d | (exact KS _ (hot _ _ _ (by decide) (by go_split_ands; assumption)) bn)) (first | (go_at_call 17; (with_reducible show Calls Tryz.prog 17 #[cv, _, _] _ _); go_split_ands; refine (put_any w cv bod a.inn 2 _ (by omega) (by assumption) (by assumption) (by omega) g0 (by omega)).mono ?_; rintro e wn1 ⟨v1, rfl, ho1, bn, hot⟩) | (go_at_call 17; (with_reducible show Calls Tryz.prog 17 #[v1, _, _] _ _); go_split_ands; refine (put_any w v1 (bod ++ putL a.inn 2) a.out 2 _ (by omega) (by assumption) (by assumption) (by omega) (by omega) (by omega)).mono ?_; rintro e wn3 ⟨v2, rfl, ho2, bn, hot⟩) | (go_at_call 17; (with_reducible show Calls Tryz.prog 17 #[v2, _, _] _ _); go_split_ands; refine (put_any w v2 (bod ++ putL a.inn 2 ++ putL a.out 2) a.wt 4 _ (by omega) (by assumption) (by assumption) (by omega) (by omega) (by omega)).mono ?_; rintro e wn4 ⟨v3, rfl, ho3, bn, hot⟩) | (go_at_call 17; go_split_ands; refine (put_any w v3 (bod ++ putL a.inn 2 ++ putL a.out 2 ++ putL a.wt 4) a.to 1 _ (by omega) (by assumption) (by assumption) (by omega) (by omega) (by omega)).mono ?_; rintro e wn5 ⟨v4, rfl, ho4, bn, hot⟩))
          have HB7 := Lib.hid ho4; have BN7 := Lib.hid bn
          have HBO7 := Lib.hid ((((HCO.out.put a.inn 2).put a.out 2).put a.wt 4).put a.to 1)
          have hbl7 : (bod ++ putL a.inn 2 ++ putL a.out 2 ++ putL a.wt 4 ++ putL a.to 1).length = bod.length + 9 := by rw [List.length_append, List.length_append, List.length_append, List.length_append, putL_len, putL_len, putL_len, putL_len]
          have HB7E : Hid (bod ++ putL a.inn 2 ++ putL a.out 2 ++ putL a.wt 4 ++ putL a.to 1 = encI m q s (t + 1)) := Lib.hid (by rw [HIT.out, HBE2.out])
          generalize bod ++ putL a.inn 2 ++ putL a.out 2 ++ putL a.wt 4 ++ putL a.to 1 = body7 at *
          clear KS X5d B5d bel5d X5 B5 bel5 b5 ho1 ho2 ho3 ho4 hot f0 f1 f2 f3 q0 q1 q2 q3 bn
          go_wp2_with fail
          go_roundw
          case rel => exact ⟨t + 1, _, body7, by omega, by go_num, rfl, HB7E.out, HB7.out, HBO7.out, by omega, by omega, BN7.out⟩
          case measure => simp [intOf]; omega
        · obtain rfl : t = s.arcs.length := by omega
          have j1 : ¬ (↑s.arcs.length : Int) < ↑s.arcs.length := by omega
          go_wp2_with fail
          go_roundw
          case rel => exact ⟨q + 1, _, bod, by omega, by go_num, rfl, by rw [HBE2.out, HIA.out], HC.out, HCO.out, hc3, by omega, bel⟩
          case measure => simp [intOf]; omega
    · obtain rfl : q = m.states.length := by omega
      have i1 : ¬ (↑m.states.length : Int) < ↑m.states.length := by omega
      have hlen : body.length ≤ 4000 := by
        rw [List.take_of_length_le (Nat.le_refl _)] at hbl
        omega
      obtain ⟨A9, c9, rfl, -, -⟩ := own_form HB.out
      have hrd := Rd.of_own HB.out
      go_wp2_with fail
      refine (sum_any A9 c9 body _ hrd (by omega) HBO.out).mono ?_; rintro e w9 ⟨rfl, rfl⟩
      generalize hS : crcOf 65535#16 body = S at *
      have HS9 := Lib.hid hS; clear hS hrd
      have hSl := S.isLt
      generalize hn : (S.toNat : Int) = nS at *
      have HN9 := Lib.hid hn
      have n0 : 0 ≤ nS := by omega
      have n1 : nS < 65536 := by omega
      clear hn hSl
      go_wp2_with fail
      refine (put_any w _ body nS 2 _ (by omega) bel HB.out (by omega) n0 (by omega)).mono ?_; rintro e w10 ⟨v10, rfl, ho10, b10, -⟩
      have HEM : Hid (encM m = body) := Lib.hid (by rw [← HEA.out, HBE.out])
      have HR : Hid (EncF w w10 v10 m) := Lib.hid (by
        unfold EncF; rw [HEM.out]
        exact ⟨nS / 256, nS % 256, by
        have e : putL nS 2 = [nS / 256, nS % 256] := by
          simp only [putL]
          rw [show (256 : Int) ^ 1 = 256 from rfl, show (256 : Int) ^ 0 = 1 from rfl]
          have e1 : nS / 256 % 256 = nS / 256 := by omega
          have e2 : nS / 1 % 256 = nS % 256 := by rw [Int.ediv_one]
          rw [e1, e2]
        rw [← e]; exact ho10, HBO.out, by omega, by omega, by omega, by omega, hb3, hlen, by rw [HS9.out, HN9.out]; omega⟩)
      clear ho10
      go_wp2_with fail
      go_ret2
      exact ⟨_, rfl, HR.out, b10⟩
theorem Encode_any (v : Value) (m : MachL) (w : World) (hm : MachAt w v m) (hv : Valid m) :
    Calls Tryz.prog 7 #[v] w fun e w' => ∃ bv, e = .returned (.tuple #[bv, .int .i64 0]) ∧ EncR w w' bv ∧ Below w.heap.size w w' :=
  (Encode_full v m w hm hv).mono fun _ _ ⟨bv, h1, h2, h3⟩ => ⟨bv, h1, h2.r, h3⟩
end Go.Proofs.YtajbfhdkghofbaaGreatDoor
