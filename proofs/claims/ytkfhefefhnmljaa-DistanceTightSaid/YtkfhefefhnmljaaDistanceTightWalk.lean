/- The walk of DistanceTight. -/
import Derived.Test.YtkfhefefhnmljaaReachWay
import Derived.Test.YtkfhefefhnmljaaMBox
import Derived.Test.YtkfhefefhnmljaaTrim
import Derived.Deep.QuietTactic
import Derived.BigQuiet
namespace Go.Proofs.Ytkfhefefhnmljaa
open Go.RowKit

namespace distanceTight
/-- states whose distance is had along some arc -/
def HadOk (m : MachL) (d : List Int) (k t : Nat) (hl : List Bool) : Prop :=
  hl.length = m.states.length ∧ hl.getD m.start.toNat false = true ∧
  ∀ q (hq : q < m.states.length) i (hi : i < m.states[q].arcs.length), (q < k ∨ (q = k ∧ i < t)) → d.getD q 0 ≠ 1000000001 → d.getD m.states[q].arcs[i].to.toNat 0 = d.getD q 0 + m.states[q].arcs[i].wt → hl.getD m.states[q].arcs[i].to.toNat false = true

theorem HadOk.next {m : MachL} {d : List Int} {k t : Nat} {hl : List Bool} (h : HadOk m d k t hl) (hk : k < m.states.length) (ht : t = m.states[k].arcs.length) : HadOk m d (k + 1) 0 hl :=
  ⟨h.1, h.2.1, fun q hq i hi hx => by
    refine h.2.2 q hq i hi ?_
    rcases hx with hx | hx
    · by_cases e : q = k
      · subst e; exact .inr ⟨rfl, by omega⟩
      · exact .inl (by omega)
    · omega⟩
theorem HadOk.skip {m : MachL} {d : List Int} {k t : Nat} {hl : List Bool} (h : HadOk m d k t hl) (hk : k < m.states.length) (ht : t < m.states[k].arcs.length) (hn : d.getD k 0 = 1000000001 ∨ d.getD m.states[k].arcs[t].to.toNat 0 ≠ d.getD k 0 + m.states[k].arcs[t].wt) : HadOk m d k (t + 1) hl :=
  ⟨h.1, h.2.1, fun q hq i hi hx h1 h2 => by
    rcases hx with hx | ⟨rfl, hx⟩
    · exact h.2.2 q hq i hi (.inl hx) h1 h2
    · by_cases e : i = t
      · subst e
        rcases hn with hn | hn
        · exact absurd hn h1
        · exact absurd h2 hn
      · exact h.2.2 q hq i hi (.inr ⟨rfl, by omega⟩) h1 h2⟩
theorem HadOk.hit {m : MachL} {d : List Int} {k t : Nat} {hl : List Bool} (h : HadOk m d k t hl) (hk : k < m.states.length) (ht : t < m.states[k].arcs.length) (hto : m.states[k].arcs[t].to.toNat < m.states.length) : HadOk m d k (t + 1) (hl.set m.states[k].arcs[t].to.toNat true) := by
  have mono : ∀ q, hl.getD q false = true → (hl.set m.states[k].arcs[t].to.toNat true).getD q false = true := fun q h => getD_set_mono h
  refine ⟨by simpa using h.1, mono _ h.2.1, fun q hq i hi hx h1 h2 => ?_⟩
  rcases hx with hx | ⟨rfl, hx⟩
  · exact mono _ (h.2.2 q hq i hi (.inl hx) h1 h2)
  · by_cases e : i = t
    · subst e
      have : m.states[q].arcs[i].to.toNat < hl.length := by have := h.1; omega
      simp [List.getD_eq_getElem?_getD, this]
    · exact mono _ (h.2.2 q hq i hi (.inr ⟨rfl, by omega⟩) h1 h2)
/-- each state that can be reached is had -/
theorem HadOk.done {m : MachL} (hv : Valid m) {d : List Int} {hl : List Bool} (h : HadOk m d m.states.length 0 hl) (hd : ∀ q, q < m.states.length → IsDist (fromFirst m) (fromE m) q (d.getD q 0)) {q : Nat} (hq : q < m.states.length) (hr : d.getD q 0 ≠ 1000000001) : hl.getD q false = true := by
  rcases hd q hq with h1 | ⟨h1, h2, h3, h4⟩
  · exact absurd h1.1 hr
  · rcases from_inv hv h3 with ⟨-, e, -⟩ | ⟨p, c', hw, hp, a, ha, e, hc⟩
    · rw [e]; exact h.2.1
    · obtain ⟨i, hi, rfl⟩ := List.getElem_of_mem ha
      rcases hd p hp with g1 | ⟨g1, g2, g3, g4⟩
      · exact absurd hw (g1.2 _)
      · have e1 := g4 _ hw
        have e2 := h4 _ (e ▸ from_step hv g3 ha)
        have := h.2.2 p hp i hi (.inl hp) (by omega) (by rw [e]; omega)
        rw [e] at this; exact this

set_option maxRecDepth 100000 in
set_option maxHeartbeats 8000000 in
theorem walk {w : World} (v : Value) (r : RawL) (hr : RawArg w v r) :
    Calls Try.prog 4 #[v] w fun e w' => e = .returned (.bool true) ∧ Below w.heap.size w w' := by
  have hm : Valid (mkMach r 8 false) := valid_made r 8 false (by omega) (by omega)
  have hsm : Small (mkMach r 8 false) := small_made r 8 false
  have hst0 : 0 ≤ (mkMach r 8 false).start := pick_lo _ _ (by unfold mkN; omega)
  have HMD := Lib.hid (fun W hb => made_any v r 8 false W (hr.below hb) (by omega) (by omega))
  obtain ⟨hst, hlen, A, c, rfl, hN⟩ := hr
  generalize mkMach r 8 false = m at *
  have hsz := hm.size; have hst1 := hm.s1
  have HTO := Lib.hid (valid_to hm).1; have HLE := Lib.hid (valid_to hm).2
  have HV := Lib.hid hm; have HSM := Lib.hid hsm
  clear hN hst hlen hm hsm
  go_enter Try.func4, Try.ntmps4
  go_wp2_with fail
  refine (HMD.out _ (by repeat' (first | exact Below.refl _ _ | assumption | refine Below.drew ?_ | refine Below.alloc ?_ (by first | omega | (simp; done) | (simp; omega)) _ | refine Below.setCell ?_ (by first | omega | (simp; done) | (simp; omega)) _))).mono ?_; rintro e w1 ⟨mv, rfl, o1, r1⟩
  obtain ⟨A1, c1, rfl, s1⟩ := own_open o1
  have b1 : Below w.heap.size w w1 := ((Below.refl _ _).alloc (Nat.le_refl _) _).trans (r1.mono (by simp))
  have X1 := Lib.hid (MBox.new (c := c1) s1)
  have b1a := b1.alloc b1.size (.cells #[.int .i64 m.start, .slice A1 m.states.length c1] 27)
  clear o1 r1 HMD s1
  go_wp2_with fail
  refine (From_any _ m _ X1.out.mach HV.out (from_small HV.out HSM.out)).mono ?_; rintro e w2 ⟨sv2, rfl, ⟨⟨bd, d, rfl, hD, hbd, hdl, hdd⟩⟩, r2⟩
  have b2 : Below w.heap.size w w2 := b1a.trans (r2.mono b1a.size)
  have X2 := Lib.hid (X1.out.step r2)
  have HD := Lib.hid hD; have HDL := Lib.hid hdl; have HDD := Lib.hid hdd
  have k2 := X2.out.blk.cell; have l2 := X2.out.blk.lt
  clear r2 hD hdl hdd X1 b1a
  go_wp2_with fail
  refine (Ahead_any _ m _ X2.out.mach HV.out).mono ?_; rintro e w3 ⟨sv3, rfl, ⟨⟨ba, sa, rfl, hA, -, hal, har⟩⟩, r3⟩
  have b3 : Below w.heap.size w w3 := b2.trans (r3.mono b2.size)
  have X3 := Lib.hid (X2.out.step r3)
  have HD3 := Lib.hid (HD.out.step r3)
  have HA := Lib.hid hA; have HAR := Lib.hid har; have HAL := Lib.hid hal
  have k3 := X3.out.blk.cell; have l3 := X3.out.blk.lt
  clear r3 hA har hal X2 HD k2 l2
  obtain ⟨p, hpq⟩ : ∃ p : Nat, m.start = p := ⟨m.start.toNat, by omega⟩
  have hp2 : m.start.toNat = p := by omega
  have hpn : p < m.states.length := by omega
  have HDS := Lib.hid (fun q (hq : q < m.states.length) => dist_small (from_small' HV.out HSM.out) (HDD.out q hq))
  -- the start is at 0
  have hd0 : d.getD p 0 = 0 := by
    have h1 := from_start HV.out hst0
    rw [hp2] at h1
    rcases HDD.out p hpn with h | h
    · exact absurd h1 (h.2 _)
    · have := h.2.2.2 _ h1; omega
  have HP2 := Lib.hid hp2; have HPQ := Lib.hid hpq; have HD0 := Lib.hid hd0
  have kd := HD3.out.cell p
  rw [icellsA_get _ _ (by rw [HDL.out]; exact hpn), hd0] at kd
  rw [hpq] at k3
  have ld := HD3.out.lt; have la := HA.out.lt
  have p0 : (0 : Int) ≤ ↑p := by omega
  have p1 : (↑p : Int) < ↑m.states.length := by omega
  have hmk := run_make_elt eltBool' w3 m.states.length (by omega) (by omega) (by omega)
  simp only [Value.cells, Nat.mul_one, madeBools'] at hmk
  clear hp2 hd0
  have EM : Hid (Value.int .i64 m.start = .int .i64 p) := Lib.hid (by rw [HPQ.out])
  clear hpq
  go_wp2_with fail
  clear hmk k3 kd ld la
  have H0 : HadOk m d 0 0 ((List.replicate m.states.length false).set p true) := by
    refine ⟨by simp, ?_, fun q hq i hi hx => by omega⟩
    rw [HP2.out]; simp [List.getD_eq_getElem?_getD, hpn]
  have P0 : Blk (w3.alloc (.cells (bcells ((List.replicate m.states.length false).set p true)) 4)) w3.heap.size (bcells ((List.replicate m.states.length false).set p true)) 4 := Blk.new _ _ _
  have e0 : ((List.replicate m.states.length (Value.bool false)).set p (Value.bool true)).toArray = bcells ((List.replicate m.states.length false).set p true) := by simp [bcells, List.map_set]
  rw [e0]
  have B0 : Below w3.heap.size w3 (w3.alloc (.cells (bcells ((List.replicate m.states.length false).set p true)) 4)) := (Below.refl _ _).alloc (Nat.le_refl _) _
  clear e0
  generalize w3.alloc (.cells (bcells ((List.replicate m.states.length false).set p true)) 4) = w4 at *
  have HAQ : Hid (∀ q (hq : q < m.states.length), sa.getD q false = (d.getD q 0 != 1000000001)) := Lib.hid (fun q hq => by
    rw [Bool.eq_iff_iff]
    rw [HAR.out, reach_way HV.out]
    simp only [bne_iff_ne, ne_eq]
    constructor
    · rintro ⟨c, hc⟩ e
      rcases HDS.out q hq with h | h
      · exact h.2 _ hc
      · omega
    · intro e
      rcases HDS.out q hq with h | h
      · exact absurd h.1 e
      · exact ⟨_, h.2.2.1⟩)
  go_loopw [9] (fun i wr => ∃ (k : Nat) (hl : List Bool), k ≤ m.states.length ∧ i = .int .i64 k ∧ Blk wr w3.heap.size (bcells hl) 4 ∧ HadOk m d k 0 hl ∧ Below w3.heap.size w3 wr) (fun i _ => m.states.length - (intOf i).toNat)
  case atStart => exact ⟨0, _, by omega, rfl, P0, H0, B0⟩
  case round =>
    obtain ⟨k, hl, hk, rfl, hB, hH, bel⟩ := hrel
    have HB := Lib.hid hB; have HH := Lib.hid hH
    have X4 := X3.out.step bel
    have HX4 := Lib.hid X4
    have HD4 := HD3.out.step bel
    have HA4 := HA.out.step bel
    have rdA := X4.at_.rdy
    have k4 := X4.blk.cell; have l4 := X4.blk.lt
    by_cases hlt : k < m.states.length
    · have kd := HD4.cell k
      rw [icellsA_get _ _ (by rw [HDL.out]; exact hlt)] at kd
      have ka := HA4.cell k
      rw [bcells_get' _ _ (by rw [HAL.out]; exact hlt), HAQ.out k hlt] at ka
      have ld := HD4.lt; have la := HA4.lt
      have hS := X4.at_
      have d0 := hS.c0 k hlt
      obtain ⟨A', c', d1, hA'⟩ := hS.c1 k hlt
      have lA := World.block_lt_of_cell? _ _ d0
      have rdB := hA'.rdy
      have hds := HDS.out k hlt
      have hle := HLE.out _ (List.getElem_mem hlt)
      have i0 : (0 : Int) ≤ ↑k := by omega
      have i1 : (↑k : Int) < ↑m.states.length := by omega
      generalize hx : d.getD k 0 = x at *
      have HX := Lib.hid hx
      have HDSK := Lib.hid hds
      have hxn : ¬ x < 0 := by rcases hds with h | h <;> omega
      have hxb : x ≤ 1000000001 := by rcases hds with h | h <;> omega
      have hx0 : 0 ≤ x := by omega
      clear hB hH X4 HD4 HA4 hS hA' hx hds
      obtain ⟨bx, hbx⟩ : ∃ b, (x != 1000000001) = b := ⟨_, rfl⟩
      rw [hbx] at ka
      go_upto_region 11 with fail
      go_quiet (fail)
      go_wp2_with fail
      have HB2 := Lib.hid (HB.out.step (below_drewN wr nq))
      have bel2 := Below.step bel (below_drewN wr nq)
      clear kd ka ld la d0 d1 lA k4 l4 HB HX4 bel hbx
      generalize wr.drewN nq = w5 at *
      go_loopw [10] (fun i wr => ∃ (t : Nat) (hl : List Bool), t ≤ m.states[k].arcs.length ∧ i = .int .i64 t ∧ Blk wr w3.heap.size (bcells hl) 4 ∧ HadOk m d k t hl ∧ Below w3.heap.size w3 wr) (fun i _ => m.states[k].arcs.length - (intOf i).toNat)
      case atStart => exact ⟨0, _, by omega, rfl, HB2.out, HH.out, bel2⟩
      case round =>
        obtain ⟨t, hl, ht, rfl, hB, hH, bel⟩ := hrel
        have HB := Lib.hid hB; have HH2 := Lib.hid hH
        have X4 := X3.out.step bel
        have HD4 := HD3.out.step bel
        have rdA := X4.at_.rdy
        have k4 := X4.blk.cell; have l4 := X4.blk.lt
        have hS := X4.at_
        have d0 := hS.c0 k hlt
        obtain ⟨A', c', d1, hA'⟩ := hS.c1 k hlt
        have lA := World.block_lt_of_cell? _ _ d0
        have rdB := hA'.rdy
        by_cases hlt2 : t < m.states[k].arcs.length
        · have f0 := hA'.c0 t hlt2; have f1 := hA'.c1 t hlt2; have f2 := hA'.c2 t hlt2; have f3 := hA'.c3 t hlt2
          have lA' := World.block_lt_of_cell? _ _ f0
          have hto := HTO.out _ (List.getElem_mem hlt) _ (List.getElem_mem hlt2)
          have hwt := ((HV.out.st _ (List.getElem_mem hlt)).2 _ (List.getElem_mem hlt2)).w0
          have hwt2 := (HSM.out _ (List.getElem_mem hlt)).2 _ (List.getElem_mem hlt2)
          have hskip := HadOk.skip hH hlt hlt2
          have hhit := HadOk.hit hH hlt hlt2 (by omega)
          have hstep : ∀ c, Way (fromFirst m) (fromE m) k c → Way (fromFirst m) (fromE m) m.states[k].arcs[t].to.toNat (c + m.states[k].arcs[t].wt) := fun c hc => from_step HV.out hc (List.getElem_mem hlt2)
          have hhl := hH.1
          generalize m.states[k].arcs[t] = a at *
          obtain ⟨q, hq⟩ : ∃ q : Nat, a.to = q := ⟨a.to.toNat, by omega⟩
          have hq2 : a.to.toNat = q := by omega
          have hqn : q < m.states.length := by omega
          rw [hq] at f3
          rw [hq2] at hskip hhit hstep
          rw [HX.out] at hskip
          have hdq := HDS.out q hqn
          have kd := HD4.cell k
          rw [icellsA_get _ _ (by rw [HDL.out]; exact hlt), HX.out] at kd
          have kq := HD4.cell q
          rw [icellsA_get _ _ (by rw [HDL.out]; exact hqn)] at kq
          have kh := hB.cell q
          rw [bcells_get' _ _ (by rw [hhl]; exact hqn)] at kh
          have kf := hB.froz; have lh := hB.lt
          have ld := HD4.lt
          generalize d.getD q 0 = y at *
          generalize a.wt = v at *
          have hyb : 0 ≤ y ∧ y ≤ 1000000001 := by rcases hdq with h | h <;> omega
          have hle2 : y ≤ bothV x v := by
            unfold bothV
            rcases HDSK.out with h | h
            · rw [if_pos (.inl h.1)]; omega
            · rw [if_neg (by omega)]
              have h1 := hstep _ h.2.2.1
              rcases hdq with h2 | h2
              · exact absurd h1 (h2.2 _)
              · exact h2.2.2.2 _ h1
          have hcb : bothV x v = 1000000001 ∧ x = 1000000001 ∨ bothV x v = x + v ∧ x ≠ 1000000001 ∧ x + v ≤ 200000000 := by
            unfold bothV
            rcases HDSK.out with h | h
            · left; rw [if_pos (.inl h.1)]; exact ⟨rfl, h.1⟩
            · right; rw [if_neg (by omega)]; exact ⟨rfl, by omega, by omega⟩
          have HSK := Lib.hid hskip; have HHI := Lib.hid hhit
          have hb3 := hB.put q (.bool true)
          rw [bcells_set] at hb3
          have HB3 := Lib.hid hb3
          have hbot := both_any x v
          obtain ⟨hy0, hy1⟩ := hyb
          clear hq hq2 hskip hhit hstep hdq hB hH X4 HD4 hS hA' hto hb3
          have j0 : (0 : Int) ≤ ↑t := by omega
          have j1 : (↑t : Int) < ↑m.states[k].arcs.length := by omega
          have q0 : (0 : Int) ≤ ↑q := by omega
          have q1 : (↑q : Int) < ↑m.states.length := by omega
          have HCB := Lib.hid hcb
          generalize bothV x v = y2 at *
          have hy2 : 0 ≤ y2 := by omega
          have hng : ¬ y2 < y := by omega
          clear hcb
          go_upto_region 17 with fail
          go_quiet ((go_at_call 22; exact Calls.quiet_of_same ((hbot _ (by omega) (by omega) (by omega) (by omega)).mono fun _ _ h => ⟨h.1, h.2.symm⟩)))
          clear hbot
          have BX : Below wr.heap.size wr ((wr.alloc (.cells #[.int .i64 a.inn, .int .i64 a.out, .int .i64 v, .int .i64 q] 48)).drewN nq) := ((Below.refl _ _).alloc (Nat.le_refl _) _).trans ((below_drewN _ nq).mono (by simp))
          have BW := Below.step bel BX
          by_cases hc : y2 = 1000000001
          · have g1 : (y2 != 1000000001) = false := by simp [hc]
            have HK := Lib.hid (HSK.out (.inl (by rcases HCB.out with h | h <;> omega)))
            have HB4 := Lib.hid (HB.out.step BX)
            clear hc
            go_wp2_with fail
            go_roundw
            case rel => exact ⟨t + 1, _, by omega, by go_num, HB4.out, HK.out, BW⟩
            case measure => simp [intOf]; omega
          · have g1 : (y2 != 1000000001) = true := by simp [hc]
            by_cases hy : y = y2
            · have g2 : (y == y2) = true := by simp [hy]
              have HB4 := Lib.hid ((HB.out.step BX).put q (.bool true))
              rw [bcells_set] at HB4
              clear hc hy
              go_wp2_with fail
              go_roundw
              case rel => exact ⟨t + 1, _, by omega, by go_num, HB4.out, HHI.out, BW.setCell (by simp) _⟩
              case measure => simp [intOf]; omega
            · have g2 : (y == y2) = false := by simp [hy]
              have HK := Lib.hid (HSK.out (.inr (by rcases HCB.out with h | h <;> omega)))
              have HB4 := Lib.hid (HB.out.step BX)
              clear hc hy
              go_wp2_with fail
              go_roundw
              case rel => exact ⟨t + 1, _, by omega, by go_num, HB4.out, HK.out, BW⟩
              case measure => simp [intOf]; omega
        · obtain rfl : t = m.states[k].arcs.length := by omega
          have HK := Lib.hid (HadOk.next hH hlt rfl)
          clear hB hH X4 HD4 hS hA'
          go_wp2_with fail
          go_roundw
          case rel => exact ⟨k + 1, _, by omega, by go_num, HB.out, HK.out, bel⟩
          case measure => simp [intOf]; omega
    · obtain rfl : k = m.states.length := by omega
      have HDONE := Lib.hid (fun q (hq : q < m.states.length) => HadOk.done HV.out hH HDD.out (q := q) hq)
      have HHL := Lib.hid hH.1
      clear hB hH X4 HD4 HA4 rdA
      go_wp2_with fail
      go_loop [13] (fun i => ∃ k : Nat, k ≤ m.states.length ∧ i = .int .i64 k) (fun i => m.states.length - (intOf i).toNat)
      case atStart => exact ⟨0, by omega, rfl⟩
      case round =>
        obtain ⟨k, hk, rfl⟩ := hrel
        by_cases hlt : k < m.states.length
        · have ka := (HA.out.step bel).cell k
          rw [bcells_get' _ _ (by rw [HAL.out]; exact hlt), HAQ.out k hlt] at ka
          have kh := HB.out.cell k
          rw [bcells_get' _ _ (by rw [HHL.out]; exact hlt)] at kh
          have lh := HB.out.lt; have la := (HA.out.step bel).lt
          have i0 : (0 : Int) ≤ ↑k := by omega
          have i1 : (↑k : Int) < ↑m.states.length := by omega
          by_cases hr : d.getD k 0 = 1000000001
          · have g1 : (d.getD k 0 != 1000000001) = false := by rw [hr]; rfl
            rw [g1] at ka
            clear hr
            go_wp2_with fail
            go_round
            case rel => exact ⟨k + 1, by omega, by go_num⟩
            case measure => simp [intOf]; omega
          · have g1 : (d.getD k 0 != 1000000001) = true := bne_iff_ne.2 hr
            rw [g1] at ka
            rw [HDONE.out k hlt hr] at kh
            clear hr
            go_wp2_with fail
            go_round
            case rel => exact ⟨k + 1, by omega, by go_num⟩
            case measure => simp [intOf]; omega
        · have i1 : ¬ (↑k : Int) < ↑m.states.length := by omega
          go_wp2_with fail
          go_ret; exact ⟨rfl, b3.trans (bel.mono b3.size)⟩
end distanceTight
end Go.Proofs.Ytkfhefefhnmljaa
