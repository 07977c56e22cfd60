/- packed.Decode of any bytes. -/
import Derived.Test.YtajbfhdkghofbaaGreatDoorDecodeBad
import Derived.Test.YtajbfhdkghofbaaGreatDoorMachBytes
import Derived.Test.YtajbfhdkghofbaaGreatDoorCheckAny
namespace Go.Proofs.YtajbfhdkghofbaaGreatDoor
open Go.RowKit

theorem encS_arcs (s : StateL) : s.arcs.length ≤ (encS s).length := by
  have h : ∀ l : List ArcL, l.length ≤ (l.flatMap encA).length := by
    intro l
    induction l with
    | nil => simp
    | cons a l ih => simp only [List.flatMap_cons, List.length_append, List.length_cons, encA, putL_len]; omega
  have := h s.arcs
  unfold encS; simp only [List.length_append]; omega
theorem encS_mem (s : StateL) : ∀ ss : List StateL, s ∈ ss → s.arcs.length ≤ (ss.flatMap encS).length
  | [], h => by simp at h
  | x :: ss, h => by
    simp only [List.flatMap_cons, List.length_append]
    rcases List.mem_cons.1 h with rfl | h
    · have := encS_arcs s; omega
    · have := encS_mem s ss h; omega
theorem machP_bounds {l : List Int} {m : MachL} (h : machP l = some (m, [])) (hb : BOk l) (hl : l.length ≤ 8000) : m.states.length ≤ 255 ∧ ∀ s ∈ m.states, s.arcs.length ≤ 10000 := by
  have he := machP_enc h hb
  have hlen : (encM m).length ≤ 8001 := by rw [← he]; simp; omega
  refine ⟨?_, fun s hs => ?_⟩
  · unfold machP at h
    obtain ⟨⟨n, l1⟩, h1, h⟩ := Option.bind_eq_some_iff.1 h
    obtain ⟨⟨st, l2⟩, h2, h⟩ := Option.bind_eq_some_iff.1 h
    obtain ⟨⟨ss, l3⟩, h3, h⟩ := Option.map_eq_some_iff.1 h
    injection h with e1 e2
    obtain ⟨g1, b1, n0, n1⟩ := takeP_put h1 hb
    have := manyP_len _ _ _ _ _ h3
    subst e1
    have e : (256 : Int) ^ 1 = 256 := rfl
    simp only at *
    omega
  · have := encS_mem s m.states hs
    have e : (encM m).length = 3 + (m.states.flatMap encS).length := by unfold encM; simp; omega
    omega

/-- what Decode answers -/
def DecP (w w' : World) (l : List Int) (e : Ending) : Prop :=
  (∃ er, e = .returned (.tuple #[.agg #[.int .i64 0, .slice none 0 0], .int .i64 er]) ∧ (er = 1 ∨ er = 3 ∨ er = 11)) ∨
  ∃ m st A n c hi lo, e = .returned (.tuple #[.agg #[.int .i64 st, .slice A n c], .int .i64 0]) ∧ OwnMach w' w.heap.size (.agg #[.int .i64 st, .slice A n c]) m ∧ Valid m ∧ l = encM m ++ [hi, lo] ∧ 0 ≤ hi ∧ hi < 256 ∧ 0 ≤ lo ∧ lo < 256 ∧ ((crcOf 0xffff#16 (encM m)).toNat : Int) = hi * 256 + lo

/-- bytes that Encode writes -/
def Good (l : List Int) : Prop := ∃ m hi lo, Valid m ∧ l = encM m ++ [hi, lo] ∧ ((crcOf 0xffff#16 (encM m)).toNat : Int) = hi * 256 + lo
theorem arcsOf_mem (ss : List StateL) (s : StateL) (h : s ∈ ss) : s.arcs.length ≤ arcsOf ss := by
  induction ss with
  | nil => simp at h
  | cons x ss ih =>
    have e : arcsOf (x :: ss) = x.arcs.length + arcsOf ss := by simp [arcsOf]
    rcases List.mem_cons.1 h with rfl | h
    · omega
    · have := ih h; omega
theorem Good.tl {l tl : List Int} {z x y : Int} (h : Good l) (e : l = z :: tl ++ [x, y]) : ∃ m, Valid m ∧ z = 84 ∧ machP tl = some (m, []) ∧ ((crcOf 0xffff#16 (z :: tl)).toNat : Int) = x * 256 + y := by
  obtain ⟨m, hi, lo, hv, hl, hc⟩ := h
  rw [e] at hl
  obtain ⟨e1, e2⟩ := List.append_inj' hl rfl
  injection e2 with e3 e4
  injection e4 with e5 _
  subst e3; subst e5
  obtain ⟨l', g1, g2⟩ := machP_of hv fun s hs => Nat.le_trans (arcsOf_mem _ s hs) hv.arcs
  rw [← e1] at hc g1
  injection g1 with g3 g4
  subst g4
  exact ⟨m, hv, g3, g2, hc⟩
/-- .. and only what Encode does not write is an error -/
def DecQ (w w' : World) (l : List Int) (e : Ending) : Prop := DecP w w' l e ∧ (Good l → ∃ v, e = .returned (.tuple #[v, .int .i64 0]))
theorem Decode_long (A : Option Addr) (n c : Nat) (l : List Int) (w : World) (h : 8000 < n) (hn : n ≤ 140737488355328) : Calls Tryz.prog 8 #[.slice A n c] w fun e w' => DecP w w' l e ∧ Below w.heap.size w w' := by
  have i0 : (8000 : Int) < (n : Int) := by omega
  go_enter Tryz.func8, Tryz.ntmps8
  go_wp2_with fail
  refine bodyPost_ret (v := .tuple #[.agg #[.int .i64 0, .slice none 0 0], .int .i64 1]) (by simp [results, Tryz.results8, go_sem, *]) rfl ⟨.inl ⟨1, rfl, .inl rfl⟩, (by repeat' (first | exact Below.refl _ _ | assumption | refine Below.drew ?_ | refine Below.alloc ?_ (by first | omega | (simp; done) | (simp; omega)) _ | refine Below.setCell ?_ (by first | omega | (simp; done) | (simp; omega)) _))⟩
theorem Decode_short (A : Option Addr) (n c : Nat) (l : List Int) (w : World) (h : n < 5) : Calls Tryz.prog 8 #[.slice A n c] w fun e w' => DecP w w' l e ∧ Below w.heap.size w w' := by
  have i0 : ¬ (8000 : Int) < (n : Int) := by omega
  have i1 : (n : Int) < 5 := by omega
  go_enter Tryz.func8, Tryz.ntmps8
  go_wp2_with fail
  refine bodyPost_ret (v := .tuple #[.agg #[.int .i64 0, .slice none 0 0], .int .i64 3]) (by simp [results, Tryz.results8, go_sem, *]) rfl ⟨.inl ⟨3, rfl, .inr (.inl rfl)⟩, (by repeat' (first | exact Below.refl _ _ | assumption | refine Below.drew ?_ | refine Below.alloc ?_ (by first | omega | (simp; done) | (simp; omega)) _ | refine Below.setCell ?_ (by first | omega | (simp; done) | (simp; omega)) _))⟩

set_option maxRecDepth 100000 in
set_option maxHeartbeats 8000000 in
theorem Decode_any (g c k : Nat) (l : List Int) (w : World) (hl : l.length = k + 2) (hr : Rd w (some ⟨g, 0, none⟩) (k + 2) 1 (ucells l)) (hk : 3 ≤ k) (hk2 : k ≤ 7998) (hc : k + 2 ≤ c) (hb : BOk l) :
    Calls Tryz.prog 8 #[.slice (some ⟨g, 0, none⟩) (k + 2) c] w fun e w' => DecQ w w' l e ∧ Below w.heap.size w w' := by
  have hc0 : ∀ i (h : i < l.length), w.cell? ⟨g, i, none⟩ = some (.int .u8 l[i]) := fun i h => by
    have := hr.at' (ucells_get l i h)
    simpa only [blk_some, ofs_some, Nat.zero_add] using this
  have k0 := hc0 k (by omega)
  have k1 := hc0 (k + 1) (by omega)
  have z0 := hc0 0 (by omega)
  have hx := hb _ (List.getElem_mem (show k < l.length by omega))
  have hy := hb _ (List.getElem_mem (show k + 1 < l.length by omega))
  have hz := hb _ (List.getElem_mem (show 0 < l.length by omega))
  have hsp : l = l[0]'(by omega) :: (l.take k).drop 1 ++ [l[k]'(by omega), l[k + 1]'(by omega)] := by
    have e1 : l.take k ++ l.drop k = l := List.take_append_drop k l
    have e2 : l.drop k = [l[k]'(by omega), l[k + 1]'(by omega)] := by
      rw [List.drop_eq_getElem_cons (show k < l.length by omega), List.drop_eq_getElem_cons (show k + 1 < l.length by omega), List.drop_eq_nil_of_le (by omega)]
    have e3 : l.take k = l[0]'(by omega) :: (l.take k).drop 1 := by
      have h0 : 0 < (l.take k).length := by simp; omega
      have := List.drop_eq_getElem_cons h0
      rw [List.drop_zero] at this
      rw [List.getElem_take] at this
      exact this
    rw [← e2, ← e3, e1]
  have hbt : BOk (l.take k) := fun c hc => hb c (List.mem_of_mem_take hc)
  have HBT : Hid (BOk (l.take k)) := Lib.hid hbt
  have hlt : (l.take k).length = k := by simp; omega
  have hlg : g < w.heap.size := World.block_lt_of_cell? _ _ k0
  have HRD : Hid (∀ W, Below w.heap.size w W → Rd W (some ⟨g, 0, none⟩) k 1 (ucells (l.take k))) := Lib.hid (fun W hW => by
    refine ⟨by simp [ucells]; omega, rdy_some _ _ _, fun j hj => ?_⟩
    have hj2 : j < k := by simp [ucells] at hj; omega
    have h1 := cell_keep hW (Nat.le_refl _) (hc0 j (by omega))
    simp only [blk_some, ofs_some, Nat.zero_add]
    rw [h1]
    simp [ucells])
  have HTK : Hid (∀ W t, Below w.heap.size w W → w.heap.size ≤ t → Blk W t #[.slice (some ⟨g, 1, none⟩) (k - 1) (c - 1)] 62 → TK W t g 1 (c - 1) ((l.take k).drop 1)) := Lib.hid (fun W t hW ht hB => by
    have e : ((l.take k).drop 1).length = k - 1 := by simp; omega
    refine ⟨by rw [e]; exact hB, by rw [e]; omega, fun i hi => ?_, fun x hx => hbt x (List.mem_of_mem_drop hx), by omega⟩
    have hil : i + 1 < l.length := by simp at hi; omega
    have h1 := cell_keep hW (Nat.le_refl _) (hc0 (i + 1) hil)
    rw [Nat.add_comm 1 i, h1]; simp)
  have hdl : ((l.take k).drop 1).length ≤ 8000 := by simp; omega
  have hbd : BOk ((l.take k).drop 1) := fun x hx => hbt x (List.mem_of_mem_drop hx)
  have hcr : l.take k = l[0]'(by omega) :: (l.take k).drop 1 := by
    have h0 : 0 < (l.take k).length := by simp; omega
    have := List.drop_eq_getElem_cons h0
    rw [List.drop_zero, List.getElem_take] at this
    exact this
  have HGT : Hid (Good l → ∃ m, Valid m ∧ l[0]'(by omega) = 84 ∧ machP ((l.take k).drop 1) = some (m, []) ∧ ((crcOf 0xffff#16 (l[0]'(by omega) :: (l.take k).drop 1)).toNat : Int) = (l[k]'(by omega)) * 256 + l[k + 1]'(by omega)) := Lib.hid fun h => h.tl hsp
  have HSP := Lib.hid hsp; have HBD := Lib.hid hbd; have HCR := Lib.hid hcr
  clear hc0 hb hr hsp hbt hbd hcr
  generalize l[k]'(by omega) = x at *
  generalize l[k + 1]'(by omega) = y at *
  generalize l[0]'(by omega) = z at *
  generalize (l.take k).drop 1 = tl at *
  generalize l.take k = bd at *
  obtain ⟨hx0, hx1⟩ := hx
  obtain ⟨hy0, hy1⟩ := hy
  obtain ⟨hz0, hz1⟩ := hz
  have lg := hlg
  have hwr : IntKind.i64.wrap ((k : Int) + 2 - 2) = (k : Int) := by rw [IntWalk.i64_in _ (by omega)]; omega
  have HL := Lib.hid hl; clear hl
  go_enter Tryz.func8, Tryz.ntmps8
  go_upto_region 5 with fail
  have R1 : Blk (w.alloc (.cells #[.int .i64 0, .slice none 0 0] 27)) w.heap.size #[.int .i64 0, .slice none 0 0] 27 := Blk.new _ _ _
  have b1 : Below w.heap.size w (w.alloc (.cells #[.int .i64 0, .slice none 0 0] 27)) := (Below.refl _ _).alloc (Nat.le_refl _) _
  have k0a := cell_keep b1 (Nat.le_refl _) k0; have k1a := cell_keep b1 (Nat.le_refl _) k1
  have lg1 : g < (w.alloc (.cells #[.int .i64 0, .slice none 0 0] 27)).heap.size := Nat.lt_of_lt_of_le lg b1.size
  generalize w.alloc (.cells #[.int .i64 0, .slice none 0 0] 27) = w1 at *
  go_region
  have T2 : Blk (w1.alloc (.cells #[.slice (some ⟨g, k, none⟩) 2 (c - k)] 62)).drew w1.heap.size #[.slice (some ⟨g, k, none⟩) 2 (c - k)] 62 := (Blk.new _ _ _).drew
  have b12 : Below w1.heap.size w1 (w1.alloc (.cells #[.slice (some ⟨g, k, none⟩) 2 (c - k)] 62)).drew := ((Below.refl _ _).alloc (Nat.le_refl _) _).drew
  have b2 := b1.trans (b12.mono b1.size)
  have R2 := Lib.hid (R1.step b12)
  have k0b := cell_keep b12 (Nat.le_refl _) k0a; have k1b := cell_keep b12 (Nat.le_refl _) k1a
  have hs1 := b1.size
  have hlR := R1.lt
  generalize (w1.alloc (.cells #[.slice (some ⟨g, k, none⟩) 2 (c - k)] 62)).drew = w2 at *
  clear b12 k0 k1 k0a k1a lg lg1 R1 b1
  go_wp2_with fail
  refine (take2_any w1.heap.size g k (c - k) x y w2 T2 (by omega) k0b k1b hx0 hx1 hy0 hy1).mono ?_; rintro e w3 ⟨rfl, hg3⟩
  have b3 := below_of_grown b2 hg3 b2.size hs1
  have R3 := R2.out.grown hg3 (by simp; omega)
  have hsum := sum_any (some ⟨g, 0, none⟩) c bd w3 (by rw [hlt]; exact HRD.out _ b3) (by omega) HBT.out
  rw [hlt] at hsum
  have HSUM := Lib.hid hsum
  have lr := R3.lt
  have HR3 := Lib.hid R3
  clear hsum hg3 R3 T2 b2 R2 k0b k1b hlR
  go_wp2_with fail
  refine HSUM.out.mono ?_; rintro e w4 ⟨rfl, rfl⟩
  have hSl := (crcOf 65535#16 bd).isLt
  have hS0 : (0 : Int) ≤ ((crcOf 65535#16 bd).toNat : Int) := by omega
  have hS1 : ((crcOf 65535#16 bd).toNat : Int) ≤ 65535 := by omega
  have HNS : Hid (((crcOf 65535#16 (z :: tl)).toNat : Int) = ((crcOf 65535#16 bd).toNat : Int)) := Lib.hid (by rw [← HCR.out])
  clear HSUM
  generalize ((crcOf 65535#16 bd).toNat : Int) = nS at *
  have kr := HR3.out.cell; have fr := HR3.out.froz
  by_cases hne : x * 256 + y = nS
  · have n1 : (x * 256 + y != nS) = false := by simpa using hne
    have z3 := cell_keep b3 (Nat.le_refl _) z0
    have lg3 : g < w3.heap.size := Nat.lt_of_lt_of_le hlg b3.size
    have HNE := Lib.hid hne
    clear hne hSl kr fr
    go_upto_region 9 with fail
    have TB : Blk (w3.alloc (.cells #[.slice (some ⟨g, 1, none⟩) (k - 1) (c - 1)] 62)) w3.heap.size #[.slice (some ⟨g, 1, none⟩) (k - 1) (c - 1)] 62 := Blk.new _ _ _
    have b34 : Below w3.heap.size w3 (w3.alloc (.cells #[.slice (some ⟨g, 1, none⟩) (k - 1) (c - 1)] 62)) := (Below.refl _ _).alloc (Nat.le_refl _) _
    have b4 := b3.trans (b34.mono b3.size)
    have TK4 := HTK.out _ _ b4 b3.size TB
    have hs3 := b3.size
    have ht4 := b34.size
    have R4 := HR3.out.step b34
    have z4 := cell_keep b34 (Nat.le_refl _) z3
    have lg4 : g < (w3.alloc (.cells #[.slice (some ⟨g, 1, none⟩) (k - 1) (c - 1)] 62)).heap.size := Nat.lt_of_lt_of_le lg3 b34.size
    have hgt : g ≠ w3.heap.size := by omega
    generalize w3.alloc (.cells #[.slice (some ⟨g, 1, none⟩) (k - 1) (c - 1)] 62) = w4 at *
    generalize w3.heap.size = tb at *
    have HM := Lib.hid (machine_any tb g 1 (c - 1) tl w4 TK4 lg4 hdl)
    have hs4 := b4.size
    clear TB b34 TK4 z3 lg3 HR3 b3
    go_wp2_with fail
    refine HM.out.mono ?_; rintro e w5 ⟨st, A, n, c5, bb, rfl, HMB, HMN, hg5⟩
    have b5 := below_of_grown b4 hg5 hs4 hs3
    have R5 := R4.grown hg5 (by simp; omega)
    have z5 := grown_cell hg5 hgt z4
    have HMB2 := Lib.hid HMB
    have HMN2 := Lib.hid HMN
    have kr := R5.cell; have fr := R5.froz; have lr5 := R5.lt
    have hs5 := b5.size
    have lg5 : g < w5.heap.size := World.block_lt_of_cell? _ _ z5
    clear HMB HMN hg5 R4 z4 lg4 HM b4 R5
    go_upto_region 10 with fail
    have b6 : Below w5.heap.size w5 (w5.alloc (.cells #[.int .i64 st, .slice A n c5] 27)) := (Below.refl _ _).alloc (Nat.le_refl _) _
    have b56 := b5.trans (b6.mono hs5)
    have kr6 : ∀ o v, #[Value.int .i64 0, Value.slice none 0 0][o]? = some v → (w5.alloc (.cells #[.int .i64 st, .slice A n c5] 27)).cell? ⟨w.heap.size, o, none⟩ = some v := fun o v h => cellB b6 ((kr o).trans h)
    have x0 := kr6 0 _ rfl; have x1 := kr6 1 _ rfl
    have y0 : (w5.alloc (.cells #[.int .i64 st, .slice A n c5] 27)).cell? ⟨w5.heap.size, 0, none⟩ = some (.int .i64 st) := by simp [go_sem]
    have y1 : (w5.alloc (.cells #[.int .i64 st, .slice A n c5] 27)).cell? ⟨w5.heap.size, 1, none⟩ = some (.slice A n c5) := by simp [go_sem]
    have f0 := frozB b6 (kr 0) (fr 0); have f1 := frozB b6 (kr 1) (fr 1)
    have z6 := cellB b6 z5
    have HMB3 : Hid (bb = true → ∃ m, machP tl = some (m, []) ∧ OwnMach (w5.alloc (.cells #[.int .i64 st, .slice A n c5] 27)) (w.heap.size + 1) (.agg #[.int .i64 st, .slice A n c5]) m) := Lib.hid fun h => let ⟨m, h1, h2⟩ := HMB2.out h; ⟨m, h1, (h2.below b6 (Nat.le_refl _)).mono (by omega)⟩
    have hl6 : w5.heap.size < (w5.alloc (.cells #[.int .i64 st, .slice A n c5] 27)).heap.size := by simp
    have lg6 : g < (w5.alloc (.cells #[.int .i64 st, .slice A n c5] 27)).heap.size := by omega
    generalize w5.alloc (.cells #[.int .i64 st, .slice A n c5] 27) = w6 at *
    generalize w5.heap.size = mb at *
    have hne6 : w.heap.size ≠ mb := by omega
    have lr6 : w.heap.size < w6.heap.size := by omega
    clear kr fr kr6 z5 HMB2 b5 b6 lg5
    cases bb with
    | false =>
      have HER : Hid (Good l → False) := Lib.hid fun hg => by obtain ⟨m, -, -, h9, -⟩ := HGT.out hg; exact HMN2.out rfl m h9
      clear HMB3 HMN2
      go_wp2_with fail
      refine bodyPost_ret (v := .tuple #[.agg #[.int .i64 0, .slice none 0 0], .int .i64 3]) (by simp [results, Tryz.results8, go_sem, *]) rfl ⟨⟨.inl ⟨3, rfl, .inr (.inl rfl)⟩, fun hg => (HER.out hg).elim⟩, ?_⟩
      exact (b56.setCell (by simp) _).setCell (by simp) _
    | true =>
      obtain ⟨m, hP, hO⟩ := HMB3.out rfl
      obtain ⟨-, m10⟩ := machP_bounds hP HBD.out hdl
      by_cases h84 : z = 84
      · subst h84
        have hE := machP_enc hP HBD.out
        have HO := Lib.hid hO; have HE := Lib.hid hE
        by_cases hv : Valid m
        · have HV := Lib.hid hv
          have CH := Lib.hid (Check_ok _ m w6 hO.at_ hv)
          clear hP hE hv HMB3 hO m10
          go_wp2_with fail
          refine CH.out.mono ?_; rintro e w7 ⟨rfl, b7⟩
          have b57 := b56.trans (b7.mono (by omega))
          have x0' := cellB b7 x0; have x1' := cellB b7 x1; have y0' := cellB b7 y0; have y1' := cellB b7 y1
          have f0' := frozB b7 x0 f0; have f1' := frozB b7 x1 f1
          have hl7 := b7.size
          clear CH x0 x1 y0 y1 f0 f1 z6
          have HO7 := Lib.hid (HO.out.below b7 (Nat.le_refl _))
          clear HO b7
          go_wp2_with fail
          refine bodyPost_ret (v := .tuple #[.agg #[.int .i64 st, .slice A n c5], .int .i64 0]) (by simp [results, Tryz.results8, go_sem, *]) rfl ⟨⟨.inr ⟨m, st, A, n, c5, x, y, rfl, ?_, HV.out, by rw [HSP.out, HE.out], hx0, hx1, hy0, hy1, ?_⟩, fun _ => ⟨_, rfl⟩⟩, ?_⟩
          · obtain ⟨sv, e, vs, ho⟩ := HO7.out
            exact ⟨sv, e, vs, ((ho.setCell (a := ⟨w.heap.size, 0, none⟩) (Nat.lt_succ_self _) _).setCell (a := ⟨w.heap.size, 1, none⟩) (Nat.lt_succ_self _) _).mono (Nat.le_succ _)⟩
          · rw [← HE.out, HNS.out, HNE.out]
          · exact (b57.setCell (by simp) _).setCell (by simp) _
        · have HV := Lib.hid hv
          have HER : Hid (Good l → False) := Lib.hid fun hg => by
            obtain ⟨m', hv', -, h9, -⟩ := HGT.out hg
            rw [hP] at h9; injection h9 with h9; injection h9 with h9; subst h9; exact hv hv'
          have CH := Lib.hid (Check_no _ m w6 hO.at_ (fun s hs => by have := m10 s hs; omega) hv)
          clear hP hE hv HMB3 hO m10
          go_wp2_with fail
          refine CH.out.mono ?_; rintro e w7 ⟨hno, b7⟩
          have b57 := b56.trans (b7.mono (by omega))
          have x0' := cellB b7 x0; have x1' := cellB b7 x1; have y0' := cellB b7 y0; have y1' := cellB b7 y1
          have f0' := frozB b7 x0 f0; have f1' := frozB b7 x1 f1
          have hl7 := b7.size
          clear CH x0 x1 y0 y1 f0 f1 z6 b7
          rcases hno with rfl | rfl
          · go_wp2_with fail
            refine bodyPost_ret (v := .tuple #[.agg #[.int .i64 0, .slice none 0 0], .int .i64 3]) (by simp [results, Tryz.results8, go_sem, *]) rfl ⟨⟨.inl ⟨3, rfl, .inr (.inl rfl)⟩, fun hg => (HER.out hg).elim⟩, ?_⟩
            exact (b57.setCell (by simp) _).setCell (by simp) _
          · go_wp2_with fail
            refine bodyPost_ret (v := .tuple #[.agg #[.int .i64 0, .slice none 0 0], .int .i64 3]) (by simp [results, Tryz.results8, go_sem, *]) rfl ⟨⟨.inl ⟨3, rfl, .inr (.inl rfl)⟩, fun hg => (HER.out hg).elim⟩, ?_⟩
            exact (b57.setCell (by simp) _).setCell (by simp) _
      · have hn84 : (z != 84) = true := by simpa using h84
        have hn84' : (z == 84) = false := by simpa using h84
        have HER : Hid (Good l → False) := Lib.hid fun hg => by obtain ⟨_, -, h9, -⟩ := HGT.out hg; exact h84 h9
        clear HMB3 hO hP h84 m10
        go_wp2_with fail
        refine bodyPost_ret (v := .tuple #[.agg #[.int .i64 0, .slice none 0 0], .int .i64 3]) (by simp [results, Tryz.results8, go_sem, *]) rfl ⟨⟨.inl ⟨3, rfl, .inr (.inl rfl)⟩, fun hg => (HER.out hg).elim⟩, ?_⟩
        exact (b56.setCell (by simp) _).setCell (by simp) _
  · have n1 : (x * 256 + y == nS) = false := by simpa using hne
    have n2 : (x * 256 + y != nS) = true := by simpa using hne
    have HNX := Lib.hid hne
    clear hne hSl
    go_wp2_with fail
    refine bodyPost_ret (v := .tuple #[.agg #[.int .i64 0, .slice none 0 0], .int .i64 11]) (by simp [results, Tryz.results8, go_sem, *]) rfl ⟨⟨.inl ⟨11, rfl, .inr (.inr rfl)⟩, fun hg => absurd (by obtain ⟨_, -, -, -, h9⟩ := HGT.out hg; rw [HNS.out] at h9; exact h9.symm) HNX.out⟩, ?_⟩
    exact (b3.setCell (by simp) _).setCell (by simp) _
end Go.Proofs.YtajbfhdkghofbaaGreatDoor
