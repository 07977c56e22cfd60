/- The walk of DistanceMeets. -/
import Derived.Test.YtgepgokaodcpcaaLeast
import Derived.Test.YtgepgokaodcpcaaMBox
import Derived.Deep.QuietTactic
import Derived.BigQuiet
namespace Go.Proofs.Ytgepgokaodcpcaa
open Go.RowKit

namespace distanceMeets
/-- b is the least of Inf and what f gives below k -/
def MinOk (f : Nat → Int) (k : Nat) (b : Int) : Prop := (∀ q, q < k → b ≤ f q) ∧ (b = 1000000001 ∨ ∃ q, q < k ∧ b = f q) ∧ b ≤ 1000000001 ∧ 0 ≤ b
theorem MinOk.zero (f : Nat → Int) : MinOk f 0 1000000001 := ⟨fun q h => by omega, .inl rfl, by omega, by omega⟩
theorem MinOk.succ {f : Nat → Int} {k : Nat} {b : Int} (h : MinOk f k b) (h0 : 0 ≤ f k) : MinOk f (k + 1) (if f k < b then f k else b) := by
  obtain ⟨h1, h2, h3, h4⟩ := h
  split
  · rename_i hlt
    refine ⟨fun q hq => ?_, .inr ⟨k, by omega, rfl⟩, by omega, h0⟩
    by_cases e : q = k
    · subst e; omega
    · have := h1 q (by omega); omega
  · refine ⟨fun q hq => ?_, h2.imp id (fun ⟨q, hq, e⟩ => ⟨q, by omega, e⟩), h3, h4⟩
    by_cases e : q = k
    · subst e; omega
    · exact h1 q (by omega)

section
variable {m : MachL} (hv : Valid m) (h0 : 0 ≤ m.start) {dF dE : List Int} {D : Int}
  (hF : ∀ q, q < m.states.length → (dF.getD q 0 = 1000000001 ∧ ∀ c, ¬ Way (fromFirst m) (fromE m) q c) ∨ (0 ≤ dF.getD q 0 ∧ dF.getD q 0 ≤ 100000000 ∧ Way (fromFirst m) (fromE m) q (dF.getD q 0) ∧ ∀ c, Way (fromFirst m) (fromE m) q c → dF.getD q 0 ≤ c))
  (hE : ∀ q, q < m.states.length → (dE.getD q 0 = 1000000001 ∧ ∀ c, ¬ Way (endsFirst m) (endsE m) q c) ∨ (0 ≤ dE.getD q 0 ∧ dE.getD q 0 ≤ 100000000 ∧ Way (endsFirst m) (endsE m) q (dE.getD q 0) ∧ ∀ c, Way (endsFirst m) (endsE m) q c → dE.getD q 0 ≤ c))
  (hD : (D = 1000000001 ∧ ∀ c, ¬ Way (endsFirst m) (endsE m) m.start.toNat c) ∨ (0 ≤ D ∧ D ≤ 100000000 ∧ Way (endsFirst m) (endsE m) m.start.toNat D ∧ ∀ c, Way (endsFirst m) (endsE m) m.start.toNat c → D ≤ c))
include hv h0 hF hD
theorem by_eq {b : Int} (hb : MinOk (fun q => bothV (dF.getD q 0) ((m.states[q]?.map (·.final)).getD 0)) m.states.length b) : b = D := by
  obtain ⟨h1, h2, h3, h4⟩ := hb
  have hle : D ≤ b := by
    rcases h2 with h2 | ⟨q, hq, h2⟩
    · rcases hD with h | h <;> omega
    · simp only [List.getElem?_eq_getElem hq, Option.map_some, Option.getD_some] at h2
      unfold bothV at h2
      split at h2
      · rcases hD with h | h <;> omega
      · rename_i hn
        rcases hF q hq with g | g
        · omega
        · have := way_join hv g.2.2.1 _ (ends_start hq (by omega))
          rcases hD with h | h
          · exact absurd this (h.2 _)
          · have := h.2.2.2 _ this; omega
  have hge : b ≤ D := by
    rcases hD with h | h
    · omega
    · obtain ⟨r, c2, hw, hr, hf, e⟩ := way_split hv h.2.2.1 0 (from_start hv h0)
      have := h1 r hr
      simp only [List.getElem?_eq_getElem hr, Option.map_some, Option.getD_some] at this
      rcases hF r hr with g | g
      · exact absurd hw (g.2 _)
      · have h5 := g.2.2.2 _ hw
        unfold bothV at this
        rw [if_neg (by omega)] at this
        omega
  omega
include hE
theorem on_eq {b : Int} (hb : MinOk (fun q => bothV (dF.getD q 0) (dE.getD q 0)) m.states.length b) : b = D := by
  have hs1 := hv.s1
  obtain ⟨h1, h2, h3, h4⟩ := hb
  have hle : D ≤ b := by
    rcases h2 with h2 | ⟨q, hq, h2⟩
    · rcases hD with h | h <;> omega
    · simp only [bothV] at h2
      split at h2
      · rcases hD with h | h <;> omega
      · rename_i hn
        rcases hF q hq with g | g
        · omega
        · rcases hE q hq with k | k
          · omega
          · have := way_join hv g.2.2.1 _ k.2.2.1
            rcases hD with h | h
            · exact absurd this (h.2 _)
            · have := h.2.2.2 _ this; omega
  have hge : b ≤ D := by
    have hp : m.start.toNat < m.states.length := by omega
    have h5 := h1 _ hp
    rcases hF _ hp with g | g
    · exact absurd (from_start hv h0) (g.2 _)
    · have h6 := g.2.2.2 _ (from_start hv h0)
      rcases hD with h | h
      · omega
      · rcases hE _ hp with k | k
        · exact absurd h.2.2.1 (k.2 _)
        · have h7 := k.2.2.2 _ h.2.2.1
          simp only [bothV] at h5
          rw [if_neg (by omega)] at h5
          omega
  omega
omit hF in
theorem at_eq : dE.getD m.start.toNat 0 = D := by
  have hs1 := hv.s1
  rcases hE m.start.toNat (by omega) with k | k
  · rcases hD with h | h
    · omega
    · exact absurd h.2.2.1 (k.2 _)
  · rcases hD with h | h
    · exact absurd k.2.2.1 (h.2 _)
    · have := k.2.2.2 _ h.2.2.1; have := h.2.2.2 _ k.2.2.1; omega
end
theorem bothV_nn (a b : Int) (ha : 0 ≤ a) (hb : 0 ≤ b) : 0 ≤ bothV a b := by unfold bothV; split <;> omega

set_option maxRecDepth 100000 in
set_option maxHeartbeats 8000000 in
theorem walk {w : World} (v : Value) (r : RawL) (hr : RawArg w v r) :
    Calls Try.prog 14 #[v] w fun e w' => e = .returned (.bool true) ∧ Below w.heap.size w w' := by
  have hm : Valid (mkMach r 8 false) := valid_made r 8 false (by omega) (by omega)
  have hsm : Small (mkMach r 8 false) := small_made r 8 false
  have hst0 : 0 ≤ (mkMach r 8 false).start := pick_lo _ _ (by unfold mkN; omega)
  have HMD := Lib.hid (fun W hb => made_any v r 8 false W (hr.below hb) (by omega) (by omega))
  obtain ⟨hst, hlen, A, c, rfl, hN⟩ := hr
  generalize mkMach r 8 false = m at *
  have hsz := hm.size; have hst1 := hm.s1
  have HV := Lib.hid hm; have HSM := Lib.hid hsm
  clear hN hst hlen hm hsm
  go_enter Try.func14, Try.ntmps14
  go_wp2_with fail
  refine (HMD.out _ (by repeat' (first | exact Below.refl _ _ | assumption | refine Below.drew ?_ | refine Below.alloc ?_ (by first | omega | (simp; done) | (simp; omega)) _ | refine Below.setCell ?_ (by first | omega | (simp; done) | (simp; omega)) _))).mono ?_; rintro e w1 ⟨mv, rfl, o1, r1⟩
  obtain ⟨A1, c1, rfl, s1⟩ := own_open o1
  have b1 : Below w.heap.size w w1 := ((Below.refl _ _).alloc (Nat.le_refl _) _).trans (r1.mono (by simp))
  have X1 := Lib.hid (MBox.new (c := c1) s1)
  have b1a := b1.alloc b1.size (.cells #[.int .i64 m.start, .slice A1 m.states.length c1] 49)
  clear o1 r1 HMD s1
  go_wp2_with fail
  refine (Least_any _ m _ X1.out.mach HV.out (ends_small HV.out HSM.out) hst0).mono ?_; rintro e w2 ⟨D, rfl, hD, r2⟩
  have b2 : Below w.heap.size w w2 := b1a.trans (r2.mono b1a.size)
  have X2 := Lib.hid (X1.out.step r2)
  have HD := Lib.hid (dist_small (ends_small' HV.out HSM.out) hD)
  have k2 := X2.out.blk.cell; have l2 := X2.out.blk.lt
  clear r2 hD X1 b1a
  go_wp2_with fail
  refine (From_any _ m _ X2.out.mach HV.out (from_small HV.out HSM.out)).mono ?_; rintro e w3 ⟨sv2, rfl, ⟨⟨bf, dF, rfl, hF, -, hfl, hfd⟩⟩, r3⟩
  have b3 : Below w.heap.size w w3 := b2.trans (r3.mono b2.size)
  have X3 := Lib.hid (X2.out.step r3)
  have HF := Lib.hid hF; have HFL := Lib.hid hfl
  have HFD := Lib.hid (fun q (hq : q < m.states.length) => dist_small (from_small' HV.out HSM.out) (hfd q hq))
  have k3 := X3.out.blk.cell; have l3 := X3.out.blk.lt
  clear r3 hF hfl hfd X2 k2 l2
  go_wp2_with fail
  refine (Ends_any _ m _ X3.out.mach HV.out (ends_small HV.out HSM.out)).mono ?_; rintro e w4 ⟨sv3, rfl, ⟨⟨be, dE, rfl, hE, -, hel, hed⟩⟩, r4⟩
  have b4 : Below w.heap.size w w4 := b3.trans (r4.mono b3.size)
  have X4 := Lib.hid (X3.out.step r4)
  have HF4 := Lib.hid (HF.out.step r4)
  have HE := Lib.hid hE; have HEL := Lib.hid hel
  have HED := Lib.hid (fun q (hq : q < m.states.length) => dist_small (ends_small' HV.out HSM.out) (hed q hq))
  clear r4 hE hel hed X3 k3 l3
  have k4 := X4.out.blk.cell; have l4 := X4.out.blk.lt
  have rdA := X4.out.at_.rdy
  go_wp2_with fail
  obtain ⟨w5, rfl⟩ : ∃ w5 : World, w5 = w4 := ⟨_, rfl⟩
  go_loopw [10, 11, 12] (fun b o i wr => ∃ (k : Nat) (b' o' : Int), k ≤ m.states.length ∧ i = .int .i64 k ∧ b = .int .i64 b' ∧ o = .int .i64 o' ∧ MinOk (fun q => bothV (dF.getD q 0) ((m.states[q]?.map (·.final)).getD 0)) k b' ∧ MinOk (fun q => bothV (dF.getD q 0) (dE.getD q 0)) k o' ∧ Below w5.heap.size w5 wr) (fun _ _ i _ => m.states.length - (intOf i).toNat)
  case atStart => exact ⟨0, _, _, by omega, rfl, rfl, rfl, MinOk.zero _, MinOk.zero _, Below.refl _ _⟩
  case round =>
    obtain ⟨k, b', o', hk, rfl, rfl, rfl, hb, ho, bel⟩ := hrel
    have X5 := X4.out.step bel
    by_cases hlt : k < m.states.length
    · have hS := X5.at_
      have d0 := hS.c0 k hlt
      have kf := (HF4.out.step bel).cell k
      rw [icellsA_get _ _ (by rw [HFL.out]; exact hlt)] at kf
      have ke := (HE.out.step bel).cell k
      rw [icellsA_get _ _ (by rw [HEL.out]; exact hlt)] at ke
      have k5 := X5.blk.cell; have l5 := X5.blk.lt
      have lf := (HF4.out.step bel).lt; have le := (HE.out.step bel).lt
      have lA := World.block_lt_of_cell? _ _ d0
      have hfk := HFD.out k hlt; have hek := HED.out k hlt
      have hvf := (HV.out.st _ (List.getElem_mem hlt)).1
      unfold ValidFinal at hvf
      have hsf := (HSM.out _ (List.getElem_mem hlt)).1
      have x0 : 0 ≤ dF.getD k 0 ∧ dF.getD k 0 ≤ 1000000001 := by rcases hfk with h | h <;> omega
      have y0 : 0 ≤ dE.getD k 0 ∧ dE.getD k 0 ≤ 1000000001 := by rcases hek with h | h <;> omega
      have hb2 := MinOk.succ hb (by simp only [List.getElem?_eq_getElem hlt, Option.map_some, Option.getD_some]; exact bothV_nn _ _ x0.1 (by omega))
      have ho2 := MinOk.succ ho (bothV_nn _ _ x0.1 y0.1)
      simp only [List.getElem?_eq_getElem hlt, Option.map_some, Option.getD_some] at hb2 ho2
      generalize dF.getD k 0 = x at *
      generalize dE.getD k 0 = y at *
      generalize m.states[k] = s at *
      obtain ⟨x0, x1⟩ := x0
      obtain ⟨y0, y1⟩ := y0
      have hbot := both_any x s.final
      have hbot2 := both_any x y
      have HBN := Lib.hid hb2; have HON := Lib.hid ho2
      have f0 : 0 ≤ s.final := by omega
      have f1 : s.final ≤ 4000000000 := by omega
      clear hfk hek hvf hsf hb2 ho2 hb ho hS X5
      generalize bothV x s.final = z1 at *
      generalize bothV x y = z2 at *
      have i0 : (0 : Int) ≤ ↑k := by omega
      have i1 : (↑k : Int) < ↑m.states.length := by omega
      generalize hm1 : (if z1 < b' then z1 else b') = n1 at *
      generalize hm2 : (if z2 < o' then z2 else o') = n2 at *
      go_upto_region 12 with fail
      go_quiet ((go_at_call 42; exact Calls.quiet_of_same ((hbot _ (by omega) (by omega) (by omega) (by omega)).mono fun _ _ h => ⟨h.1, h.2.symm⟩)))
      have bel2 := Below.step bel (below_drewN _ nq)
      have kf2 : (wr.drewN nq).cell? ⟨bf, k, none⟩ = some (.int .i64 x) := kf
      have ke2 : (wr.drewN nq).cell? ⟨be, k, none⟩ = some (.int .i64 y) := ke
      have lf2 : bf < (wr.drewN nq).heap.size := lf
      have le2 : be < (wr.drewN nq).heap.size := le
      clear kf ke lf le d0 lA k5 l5 bel hbot
      generalize wr.drewN nq = w6 at *
      go_upto_region 13 with fail
      go_quiet ((go_at_call 42; exact Calls.quiet_of_same ((hbot2 _ (by omega) (by omega) (by omega) (by omega)).mono fun _ _ h => ⟨h.1, h.2.symm⟩)))
      clear hbot2
      go_wp2_with fail
      go_roundw
      case rel => exact ⟨k + 1, n1, n2, by omega, by go_num, rfl, rfl, HBN.out, HON.out, Below.step bel2 (below_drewN _ _)⟩
      case measure => simp [intOf]; omega
    · obtain rfl : k = m.states.length := by omega
      have e1 := by_eq HV.out hst0 HFD.out HD.out hb
      have e2 := on_eq HV.out hst0 HFD.out HED.out HD.out ho
      have e3 := at_eq HV.out hst0 HED.out HD.out
      subst e1
      subst e2
      obtain ⟨p, hpq⟩ : ∃ p : Nat, m.start = p := ⟨m.start.toNat, by omega⟩
      have hp2 : m.start.toNat = p := by omega
      have hpn : p < m.states.length := by omega
      rw [hp2] at e3
      have ke := (HE.out.step bel).cell p
      rw [icellsA_get _ _ (by rw [HEL.out]; exact hpn), e3] at ke
      have k5 := X5.blk.cell; have l5 := X5.blk.lt
      rw [hpq] at k5
      have le := (HE.out.step bel).lt
      have p0 : (0 : Int) ≤ ↑p := by omega
      have p1 : (↑p : Int) < ↑m.states.length := by omega
      clear e3 hp2 hpq hb ho X5
      go_wp2_with fail
      go_ret; exact ⟨rfl, b4.trans (bel.mono b4.size)⟩
end distanceMeets
end Go.Proofs.Ytgepgokaodcpcaa
