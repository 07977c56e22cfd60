/- empties.near. -/
import Derived.Test.YtlfjccgbngnjhaaNearPlain
import Derived.Test.YtlfjccgbngnjhaaBools
import Derived.Test.YtlfjccgbngnjhaaCmp
import Derived.Test.YtlfjccgbngnjhaaValid
import Derived.Test.YtlfjccgbngnjhaaMBox
import Derived.StillTailTactics
import Derived.BigQuiet
import Derived.Deep.QuietTactic
import Derived.Deep.LoopGhost
import Derived.LoopTactic
import Derived.IntWalk
import Derived.Deep.DeepCutAuto
import Derived.Deep.RegionHeld3
namespace Go.Proofs.Ytlfjccgbngnjhaa
open Go.RowKit

abbrev numA (l : List Int) : Array Value := (l.map (Value.int .i64)).toArray
theorem numA_get (l : List Int) (p : Nat) (h : p < l.length) : (numA l)[p]? = some (.int .i64 (cg l p)) := by
  simp [numA, cg, h, List.getD_eq_getElem?_getD]
theorem numA_set (l : List Int) (p : Nat) (x : Int) : (numA l).setIfInBounds p (.int .i64 x) = numA (l.set p x) := by simp [numA, List.map_set]
theorem madeNumA (n : Nat) : madeCells #[Value.int .i64 0] n = numA (List.replicate n 0) := by rw [made_at]; simp [numA]
theorem eltNum : Elt Try.prog 44 3 (.int .i64 0) 1 8 := ⟨Try.underlying44, by kernel_rfl, rfl, by omega⟩
def fillM (N k : Nat) : List Int := List.replicate k (-1) ++ List.replicate (N - k) 0
theorem fillM_zero (N : Nat) : fillM N 0 = List.replicate N 0 := by simp [fillM]
theorem fillM_all (N : Nat) : fillM N N = List.replicate N (-1) := by simp [fillM]
theorem fillM_len (N k : Nat) (h : k ≤ N) : (fillM N k).length = N := by simp [fillM]; omega
theorem fillM_set (N k : Nat) (h : k < N) : (fillM N k).set k (-1) = fillM N (k + 1) := by
  unfold fillM
  rw [show N - k = (N - (k + 1)) + 1 by omega, List.replicate_succ, List.set_append_right _ _ (by simp), List.length_replicate, Nat.sub_self, List.set_cons_zero]
  simp [List.replicate_succ']

/-- how many are not done -/
def fls (d : List Bool) : Nat := (d.filter (!·)).length
theorem fls_le (d : List Bool) : fls d ≤ d.length := List.length_filter_le _ _
theorem fls_set : ∀ (d : List Bool) (k : Nat), k < d.length → dg d k = false → fls (d.set k true) + 1 = fls d
  | [], k, h, _ => by simp at h
  | b :: d, 0, _, h => by
    have : b = false := by simpa [dg] using h
    subst this; simp [fls]
  | b :: d, k + 1, h, hk => by
    have := fls_set d k (by simpa using h) (by simpa [dg] using hk)
    unfold fls at *
    rw [List.set_cons_succ]
    cases b <;> simp at this ⊢ <;> omega

/-- near's memory -/
structure NW (w W : World) (bd : Nat) (A : Option Addr) (n c : Nat) (st : Int) (cl : List Int) (d : List Bool) : Prop where
  mb : Blk W w.heap.size #[.int .i64 st, .slice A n c] 27
  cb : Blk W (w.heap.size + 1) (numA cl) 3
  db : Blk W bd (boolsA d) 4
  bel : Below w.heap.size w W
  hb : w.heap.size + 1 < bd
section
variable {w W W' : World} {bd n c : Nat} {A : Option Addr} {st : Int} {cl : List Int} {d : List Bool}
theorem NW.keep (h : NW w W bd A n c st cl d) (hb : Below W.heap.size W W') : NW w W' bd A n c st cl d :=
  ⟨h.mb.step hb, h.cb.step hb, h.db.step hb, h.bel.trans (hb.mono h.bel.size), h.hb⟩
theorem NW.setC (h : NW w W bd A n c st cl d) (p : Nat) (x : Int) : NW w (W.setCell ⟨w.heap.size + 1, p, none⟩ (.int .i64 x)) bd A n c st (cl.set p x) d := by
  have hb := h.hb
  refine ⟨h.mb.far (by simp) _, ?_, h.db.far (by simp; omega) _, h.bel.setCell (by simp) _, hb⟩
  rw [← numA_set]; exact h.cb.put _ _
theorem NW.setD (h : NW w W bd A n c st cl d) (p : Nat) : NW w (W.setCell ⟨bd, p, none⟩ (.bool true)) bd A n c st cl (d.set p true) := by
  have hb := h.hb
  refine ⟨h.mb.far (by simp; omega) _, h.cb.far (by simp; omega) _, ?_, h.bel.setCell (by simp; omega) _, hb⟩
  rw [← boolsA_set]; exact h.db.put _ _
end
/-- what near answers -/
def NearR (w w' : World) (m : MachL) (q : Nat) (WW : Int) (l : List Int) (e : Ending) : Prop :=
  e = .returned (.slice (some ⟨w.heap.size + 1, 0, none⟩) m.states.length m.states.length) ∧ Blk w' (w.heap.size + 1) (numA l) 3 ∧ Near m q l ∧ (∀ p, cg l p ≤ m.states.length * WW) ∧ Below w.heap.size w w'
/-- the state that the search has come upon -/
def PickR (cl : List Int) (d : List Bool) (p : Nat) (qv : Value) : Prop :=
  (qv = .int .i64 (-1) ∧ ∀ s, s < p → dg d s = false → cg cl s < 0) ∨ ∃ k : Nat, qv = .int .i64 k ∧ k < p ∧ 0 ≤ cg cl k ∧ dg d k = false ∧ ∀ s, s < p → dg d s = false → 0 ≤ cg cl s → cg cl k ≤ cg cl s

theorem bel_drewN (W : World) (k : Nat) : Below W.heap.size W (W.drewN k) := ⟨rfl, rfl, rfl, Nat.le_refl _, fun _ _ => rfl⟩
theorem start_low (n q : Nat) (p : Nat) : cg ((List.replicate n (-1)).set q 0) p ≤ 0 := by
  rcases Nat.lt_or_ge q n with h | h
  · rw [cg_set _ _ _ _ (by simpa using h)]
    split
    · omega
    · unfold cg; simp only [List.getD_eq_getElem?_getD, List.getElem?_replicate]; split <;> simp
  · rw [List.set_eq_of_length_le (by simpa using h)]
    unfold cg; simp only [List.getD_eq_getElem?_getD, List.getElem?_replicate]; split <;> simp
theorem fls_start (n : Nat) : fls (List.replicate n false) = n := by simp [fls]
theorem PickR.start (cl : List Int) (d : List Bool) : PickR cl d 0 (.int .i64 (-1)) := .inl ⟨rfl, fun _ h => absurd h (by omega)⟩
theorem PickR.skip {cl : List Int} {d : List Bool} {p : Nat} {qv : Value} (h : PickR cl d p qv) (hn : dg d p = true ∨ cg cl p < 0) : PickR cl d (p + 1) qv := by
  rcases h with ⟨h1, h2⟩ | ⟨k, h1, h2, h3, h4, h5⟩
  · refine .inl ⟨h1, fun s hs hd => ?_⟩
    by_cases e : s = p
    · subst e; rcases hn with hn | hn
      · rw [hn] at hd; cases hd
      · exact hn
    · exact h2 s (by omega) hd
  · refine .inr ⟨k, h1, by omega, h3, h4, fun s hs hd h0 => ?_⟩
    by_cases e : s = p
    · subst e; rcases hn with hn | hn
      · rw [hn] at hd; cases hd
      · omega
    · exact h5 s (by omega) hd h0
theorem PickR.first {cl : List Int} {d : List Bool} {p : Nat} (h : ∀ s, s < p → dg d s = false → cg cl s < 0) (h0 : 0 ≤ cg cl p) (hd : dg d p = false) : PickR cl d (p + 1) (.int .i64 p) := by
  refine .inr ⟨p, rfl, by omega, h0, hd, fun s hs hds hs0 => ?_⟩
  by_cases e : s = p
  · subst e; exact Int.le_refl _
  · have := h s (by omega) hds; omega
theorem PickR.less {cl : List Int} {d : List Bool} {p k : Nat} (h : ∀ s, s < p → dg d s = false → 0 ≤ cg cl s → cg cl k ≤ cg cl s) (h0 : 0 ≤ cg cl p) (hd : dg d p = false) (hl : cg cl p < cg cl k) : PickR cl d (p + 1) (.int .i64 p) := by
  refine .inr ⟨p, rfl, by omega, h0, hd, fun s hs hds hs0 => ?_⟩
  by_cases e : s = p
  · subst e; exact Int.le_refl _
  · have := h s (by omega) hds hs0; omega
theorem PickR.keep {cl : List Int} {d : List Bool} {p k : Nat} (hk : k < p) (h0 : 0 ≤ cg cl k) (hd : dg d k = false) (h : ∀ s, s < p → dg d s = false → 0 ≤ cg cl s → cg cl k ≤ cg cl s) (hl : cg cl k ≤ cg cl p) : PickR cl d (p + 1) (.int .i64 k) := by
  refine .inr ⟨k, rfl, by omega, h0, hd, fun s hs hds hs0 => ?_⟩
  by_cases e : s = p
  · subst e; exact hl
  · exact h s (by omega) hds hs0

set_option maxRecDepth 100000 in
theorem empty_any (a : ArcL) (w : World) : Calls Try.prog 39 #[arcVal a] w fun e w' => e = .returned (.bool (emptyA a)) ∧ Below w.heap.size w w' := by
  have he : emptyA a = (a.inn == 0 && a.out == 0) := rfl
  have HE := Lib.hid he; clear he
  generalize emptyA a = r at *
  by_cases h1 : a.inn = 0
  · have e1 : (a.inn == 0) = true := by simpa using h1
    rw [e1] at HE
    clear h1
    go_enter Try.func39, Try.ntmps39
    go_wp2_with fail
    go_ret
    exact ⟨by rw [HE.out]; rfl, (by repeat' (first | exact Below.refl _ _ | assumption | refine Below.drew ?_ | refine Below.alloc ?_ (by first | omega | (simp; done) | (simp; omega)) _ | refine Below.setCell ?_ (by first | omega | (simp; done) | (simp; omega)) _))⟩
  · have e1 : (a.inn == 0) = false := by simpa using h1
    rw [e1] at HE
    clear h1
    go_enter Try.func39, Try.ntmps39
    go_wp2_with fail
    go_ret
    exact ⟨by rw [HE.out]; rfl, (by repeat' (first | exact Below.refl _ _ | assumption | refine Below.drew ?_ | refine Below.alloc ?_ (by first | omega | (simp; done) | (simp; omega)) _ | refine Below.setCell ?_ (by first | omega | (simp; done) | (simp; omega)) _))⟩
theorem arcQ_cell {W : World} {A : Option Addr} {m : MachL} (h : StatesAt W A m.states) {q : Nat} (hq : q < m.states.length) : ∃ A' c, W.cell? ⟨blk A, ofs A + q * 2 + 1, none⟩ = some (.slice A' (arcsQ m q).length c) ∧ ArcsAt W A' (arcsQ m q) := by
  have e : arcsQ m q = m.states[q].arcs := by unfold arcsQ; rw [List.getElem?_eq_getElem hq]; rfl
  rw [e]; exact h.c1 q hq
theorem finQ_cell {W : World} {A : Option Addr} {m : MachL} (h : StatesAt W A m.states) {q : Nat} (hq : q < m.states.length) : W.cell? ⟨blk A, ofs A + q * 2, none⟩ = some (.int .i64 (finQ m q)) := by
  have e : finQ m q = m.states[q].final := by unfold finQ; rw [List.getElem?_eq_getElem hq]; rfl
  rw [e]; exact h.c0 q hq
theorem arcsQ_in {m : MachL} {p : Nat} {a : ArcL} (ha : a ∈ arcsQ m p) : ∃ s ∈ m.states, a ∈ s.arcs := by
  obtain ⟨s, hs, h⟩ := arcsQ_mem ha
  exact ⟨s, List.mem_of_getElem? hs, h⟩
theorem arcsOk_of {m : MachL} (hv : Valid m) : ArcsOk m := by
  refine ⟨fun p a ha => ?_, fun p a ha => ?_⟩
  · obtain ⟨s, hs, h⟩ := arcsQ_in ha
    have := (hv.st s hs).2 a h; exact ⟨this.t0, this.t1⟩
  · obtain ⟨s, hs, h⟩ := arcsQ_in ha
    exact ((hv.st s hs).2 a h).w0

set_option maxRecDepth 100000 in
set_option maxHeartbeats 8000000 in
theorem near_any (v : Value) (m : MachL) (q : Nat) (WW : Int) (w : World) (hm : MachAt w v m) (hv : Valid m) (hq : q < m.states.length) (h0 : 0 ≤ WW) (hw : ∀ s ∈ m.states, ∀ a ∈ s.arcs, a.wt ≤ WW) (hb : (m.states.length : Int) * WW ≤ 1000000000) :
    Calls Try.prog 38 #[v, .int .i64 q] w fun e w' => ∃ l, NearR w w' m q WW l e := by
  have hsz := hv.size
  have HOK := Lib.hid (arcsOk_of hv)
  have HW := Lib.hid (fun p a (ha : a ∈ arcsQ m p) => (show a.wt ≤ WW by obtain ⟨s, hs, h⟩ := arcsQ_in ha; exact hw s hs a h))
  have HAL := Lib.hid (fun p => (show (arcsQ m p).length ≤ 400 by
    have h3 := hv.arcs
    unfold arcsQ
    cases hs : m.states[p]? with
    | none => simp
    | some s => simp only [Option.map_some, Option.getD_some]; have := arcs_le_of m.states s (List.mem_of_getElem? hs); omega))
  obtain ⟨A, c, rfl, hS⟩ := hm
  have HS := Lib.hid hS
  have rd := hS.rdy
  have HB := Lib.hid hb; have H0 := Lib.hid h0
  have HN0 := Lib.hid (NInv.start (m := m) hq)
  clear hS hw hb hv h0
  generalize hst : m.start = st at *
  clear hst
  have hmk := run_make_elt eltNum (w.alloc (.cells #[.int .i64 st, .slice A m.states.length c] 27)) m.states.length (by omega) (by omega) (by omega)
  simp only [Value.cells, Nat.mul_one, madeNumA] at hmk
  rw [← fillM_zero] at hmk
  simp only [World.size_alloc] at hmk
  go_enter Try.func38, Try.ntmps38
  go_upto_region 3 with fail
  have T1 : Blk ((w.alloc (.cells #[.int .i64 st, .slice A m.states.length c] 27)).alloc (.cells (numA (fillM m.states.length 0)) 3)) w.heap.size #[.int .i64 st, .slice A m.states.length c] 27 := (Blk.new _ _ _).alloc _
  have T2 : Blk ((w.alloc (.cells #[.int .i64 st, .slice A m.states.length c] 27)).alloc (.cells (numA (fillM m.states.length 0)) 3)) (w.heap.size + 1) (numA (fillM m.states.length 0)) 3 := Blk.new' (by simp)
  have T3 : Below w.heap.size w ((w.alloc (.cells #[.int .i64 st, .slice A m.states.length c] 27)).alloc (.cells (numA (fillM m.states.length 0)) 3)) := (by repeat' (first | exact Below.refl _ _ | assumption | refine Below.drew ?_ | refine Below.alloc ?_ (by first | omega | (simp; done) | (simp; omega)) _ | refine Below.setCell ?_ (by first | omega | (simp; done) | (simp; omega)) _))
  have HT0 := Lib.hid (And.intro T1 (And.intro T2 T3))
  clear hmk T1 T2 T3
  generalize (w.alloc (.cells #[.int .i64 st, .slice A m.states.length c] 27)).alloc (.cells (numA (fillM m.states.length 0)) 3) = w1 at *
  go_loopw [20] (fun iv wr => ∃ k : Nat, k ≤ m.states.length ∧ iv = .int .i64 k ∧ Blk wr w.heap.size #[.int .i64 st, .slice A m.states.length c] 27 ∧ Blk wr (w.heap.size + 1) (numA (fillM m.states.length k)) 3 ∧ Below w.heap.size w wr) (fun iv _ => m.states.length - (intOf iv).toNat)
  case atStart => exact ⟨0, by omega, rfl, HT0.out⟩
  case round =>
    obtain ⟨k, hk, rfl, t1, t2, t3⟩ := hrel
    have HT := Lib.hid (And.intro t1 (And.intro t2 t3))
    have i0 : (0 : Int) ≤ (k : Int) := by omega
    clear t1 t2 t3
    by_cases hlt : k < m.states.length
    · have i1 : (k : Int) < (m.states.length : Int) := by omega
      have kf := HT.out.2.1.cell k
      rw [numA_get _ _ (by rw [fillM_len _ _ hk]; exact hlt)] at kf
      have ff := HT.out.2.1.froz k; have lf := HT.out.2.1.lt
      have t2 := HT.out.2.1.put k (.int .i64 (-1))
      rw [numA_set, fillM_set _ _ hlt] at t2
      have HT2 := Lib.hid (And.intro (HT.out.1.far (a := ⟨w.heap.size + 1, k, none⟩) (by simp) (.int .i64 (-1))) (And.intro t2 (HT.out.2.2.setCell (p := ⟨w.heap.size + 1, k, none⟩) (by simp) (.int .i64 (-1)))))
      clear t2
      go_wp2_with fail
      go_roundw
      case rel => exact ⟨k + 1, by omega, by go_num, HT2.out⟩
      case measure => simp [intOf]; omega
    · obtain rfl : k = m.states.length := by omega
      rw [fillM_all] at HT
      clear hlt hk HT0
      have kf := HT.out.2.1.cell q
      rw [numA_get _ _ (by simpa using hq)] at kf
      have ff := HT.out.2.1.froz q; have lf := HT.out.2.1.lt
      have km := HT.out.1.cell; have lm := HT.out.1.lt
      have i2 : (0 : Int) ≤ (q : Int) := by omega
      have i3 : (q : Int) < (m.states.length : Int) := by omega
      have hmk := run_make_elt eltBoolA (wr.setCell ⟨w.heap.size + 1, q, none⟩ (.int .i64 0)) m.states.length (by omega) (by omega) (by omega)
      simp only [Value.cells, Nat.mul_one, madeBoolsA] at hmk
      have T0 : NW w ((wr.setCell ⟨w.heap.size + 1, q, none⟩ (.int .i64 0)).alloc (.cells (boolsA (List.replicate m.states.length false)) 4)) wr.heap.size A m.states.length c st ((List.replicate m.states.length (-1)).set q 0) (List.replicate m.states.length false) := by
        refine ⟨(HT.out.1.far (by simp) _).alloc _, ?_, Blk.new' (by simp [World.setCell]), (HT.out.2.2.setCell (by simp) _).alloc ?_ _, lf⟩
        · rw [← numA_set]; exact (HT.out.2.1.put _ _).alloc _
        · have := HT.out.2.2.size; simpa [World.setCell] using this
      have HT2 := Lib.hid T0
      clear T0
      go_upto_region 9 with fail
      clear kf ff lf km lm i2 i3 hmk HT
      generalize (wr.setCell ⟨w.heap.size + 1, q, none⟩ (.int .i64 0)).alloc (.cells (boolsA (List.replicate m.states.length false)) 4) = w3 at *
      generalize wr.heap.size = bd at *
      have HSL := Lib.hid (start_low m.states.length q)
      have HFS := Lib.hid (fls_start m.states.length)
      generalize (List.replicate m.states.length (-1)).set q 0 = cl0 at *
      generalize List.replicate m.states.length false = d0 at *
      go_loopg [8] (m.states.length + 1) (fun g _ wr => ∃ cl d, NW w wr bd A m.states.length c st cl d ∧ NInv m q cl d ∧ (∀ p, cg cl p ≤ ((m.states.length : Int) - (fls d : Nat)) * WW) ∧ fls d + 1 ≤ g)
      case atStart =>
        refine ⟨cl0, d0, HT2.out, HN0.out, fun p => ?_, by rw [HFS.out]; omega⟩
        rw [HFS.out, Int.sub_self, Int.zero_mul]; exact HSL.out p
      case round =>
        clear HT2 HN0 HSL HFS
        obtain ⟨cl, d, hT, hN, hB, hgl⟩ := hrel
        obtain ⟨wa, rfl⟩ : ∃ wa : World, wa = wr := ⟨_, rfl⟩
        have HT := Lib.hid hT; have HN := Lib.hid hN; have HBD := Lib.hid hB; have HGL := Lib.hid hgl
        clear hT hN hB hgl
        go_upto_region 11 with fail
        go_loop [8, 36] (fun qv iv => ∃ p : Nat, p ≤ m.states.length ∧ iv = .int .i64 p ∧ PickR cl d p qv) (fun _ iv => m.states.length - (intOf iv).toNat)
        case atStart => exact ⟨0, by omega, rfl, PickR.start _ _⟩
        case round =>
          obtain ⟨p, hp, rfl, hR⟩ := hrel
          have i0 : (0 : Int) ≤ (p : Int) := by omega
          by_cases hlt : p < m.states.length
          · have i1 : (p : Int) < (m.states.length : Int) := by omega
            have kc := HT.out.cb.cell p
            rw [numA_get _ _ (by rw [HN.out.cl]; exact hlt)] at kc
            have kd := HT.out.db.cell p
            rw [boolsA_get _ _ (by rw [HN.out.dl]; exact hlt)] at kd
            have lc := HT.out.cb.lt; have ld := HT.out.db.lt
            by_cases hx : cg cl p < 0
            · have HR2 := Lib.hid (hR.skip (.inr hx))
              clear hR kd
              generalize cg cl p = x at *
              go_wp2_with fail
              go_round
              case rel => exact ⟨p + 1, by omega, by go_num, HR2.out⟩
              case measure => simp [intOf]; omega
            · cases hd : dg d p with
              | true =>
                have HR2 := Lib.hid (hR.skip (.inl hd))
                have hd2 : d.getD p false = true := hd
                rw [hd2] at kd
                clear hR hd hd2
                generalize cg cl p = x at *
                have hx2 : 0 ≤ x := by omega
                go_wp2_with fail
                go_round
                case rel => exact ⟨p + 1, by omega, by go_num, HR2.out⟩
                case measure => simp [intOf]; omega
              | false =>
                have hd2 : d.getD p false = false := hd
                rw [hd2] at kd
                rcases hR with ⟨rfl, hR⟩ | ⟨k, rfl, hk, hk0, hkd, hR⟩
                · have HR2 := Lib.hid (PickR.first hR (by omega) hd)
                  clear hR hd hd2
                  generalize cg cl p = x at *
                  have hx2 : 0 ≤ x := by omega
                  go_wp2_with fail
                  go_round
                  case rel => exact ⟨p + 1, by omega, by go_num, HR2.out⟩
                  case measure => simp [intOf]; omega
                · have kk := HT.out.cb.cell k
                  rw [numA_get _ _ (by rw [HN.out.cl]; omega)] at kk
                  have j0 : (0 : Int) ≤ (k : Int) := by omega
                  have j1 : (k : Int) < (m.states.length : Int) := by omega
                  by_cases hl : cg cl p < cg cl k
                  · have HR2 := Lib.hid (PickR.less hR (by omega) hd hl)
                    clear hR hd hd2
                    generalize cg cl p = x at *
                    generalize cg cl k = y at *
                    have hx2 : 0 ≤ x := by omega
                    go_wp2_with fail
                    go_round
                    case rel => exact ⟨p + 1, by omega, by go_num, HR2.out⟩
                    case measure => simp [intOf]; omega
                  · have HR2 := Lib.hid (PickR.keep hk hk0 hkd hR (by omega))
                    clear hR hd hd2 hkd
                    generalize cg cl p = x at *
                    generalize cg cl k = y at *
                    have hx2 : 0 ≤ x := by omega
                    go_wp2_with fail
                    go_round
                    case rel => exact ⟨p + 1, by omega, by go_num, HR2.out⟩
                    case measure => simp [intOf]; omega
          · obtain rfl : p = m.states.length := by omega
            clear hlt hp i0
            rcases hR with ⟨rfl, hR⟩ | ⟨k, rfl, hk, hk0, hkd, hR⟩
            · have HNR : Hid (Near m q cl) := Lib.hid (HN.out.near fun s hs => by
                rcases Nat.lt_or_ge s m.states.length with h | h
                · exact hR s h hs
                · rcases Int.lt_or_le (cg cl s) 0 with h2 | h2
                  · exact h2
                  · have := cg_out h2; have := HN.out.cl; omega)
              have HB2 : Hid (∀ s, cg cl s ≤ (m.states.length : Int) * WW) := Lib.hid fun s => by
                have h1 := HBD.out s
                have h2 : 0 ≤ ((fls d : Nat) : Int) * WW := Int.mul_nonneg (by omega) H0.out
                rw [Int.sub_mul] at h1; omega
              clear hR
              go_wp2_with fail
              go_ret
              exact ⟨cl, rfl, HT.out.cb, HNR.out, HB2.out, HT.out.bel⟩
            · have HMID := Lib.hid (HN.out.pick hk0 hkd (fun s hs h0 => by
                rcases Nat.lt_or_ge s m.states.length with h | h
                · exact hR s h hs h0
                · have := cg_out h0; have := HN.out.cl; omega))
              have hfl := fls_set d k (by rw [HN.out.dl]; exact hk) hkd
              obtain ⟨B, hBe⟩ : ∃ B : Int, B = ((m.states.length : Int) - (fls d : Nat)) * WW := ⟨_, rfl⟩
              have hBe2 : B + WW = ((m.states.length : Int) - (fls (d.set k true) : Nat)) * WW := by
                have e : ((fls d : Nat) : Int) = (fls (d.set k true) : Nat) + 1 := by omega
                rw [hBe, e, Int.sub_mul, Int.sub_mul, Int.add_mul]; omega
              have hBn : B + WW ≤ 1000000000 := by
                have h1 := HB.out
                have h2 : 0 ≤ ((fls (d.set k true) : Nat) : Int) * WW := Int.mul_nonneg (by omega) H0.out
                rw [hBe2, Int.sub_mul]; omega
              have HB0 : Hid ((∀ s, cg cl s ≤ B + WW) ∧ cg cl k ≤ B) := Lib.hid ⟨fun s => by have h1 := HBD.out s; rw [← hBe] at h1; have := H0.out; omega, by have h1 := HBD.out k; rw [← hBe] at h1; exact h1⟩
              have HFL := Lib.hid hfl; have HBE := Lib.hid hBe2
              have HT2 := Lib.hid (HT.out.setD k)
              have kd := HT.out.db.cell k
              rw [boolsA_get _ _ (by rw [HN.out.dl]; exact hk)] at kd
              have ff := HT.out.db.froz k; have ld := HT.out.db.lt
              have km := HT.out.mb.cell; have lm := HT.out.mb.lt
              have j0 : (0 : Int) ≤ (k : Int) := by omega
              have j1 : (k : Int) < (m.states.length : Int) := by omega
              have km2 := HT2.out.mb.cell; have lm2 := HT2.out.mb.lt
              obtain ⟨A', c', d1, hA'⟩ := arcQ_cell HS.out hk
              replace d1 := cell_keep HT2.out.bel (Nat.le_refl _) d1
              have HA := Lib.hid hA'
              have rdA := hA'.rdy
              have hal := HAL.out k
              clear hR hkd hk0 hfl hBe hBe2 hA'
              go_upto_region 20 with fail
              clear kd ff ld km lm km2 lm2 d1
              generalize wa.setCell ⟨bd, k, none⟩ (.bool true) = wb at *
              generalize d.set k true = d2 at *
              obtain ⟨N, hN⟩ : ∃ N, (arcsQ m k).length = N := ⟨_, rfl⟩
              have HNN := Lib.hid hN
              rw [hN] at rdA hal
              rw [hN]
              clear hN
              go_loopw [77] (fun iv wr => ∃ (t : Nat) (cl : List Int), t ≤ N ∧ iv = .int .i64 t ∧ NW w wr bd A m.states.length c st cl d2 ∧ NMid m q cl d2 k t ∧ (∀ s, cg cl s ≤ B + WW) ∧ cg cl k ≤ B) (fun iv _ => N - (intOf iv).toNat)
              case atStart => exact ⟨0, cl, by omega, rfl, HT2.out, HMID.out, HB0.out.1, HB0.out.2⟩
              case round =>
                clear HT HN HBD HT2 HMID HB0
                obtain ⟨t, cl, ht, rfl, hT, hM, hb1, hb2⟩ := hrel
                obtain ⟨wt, rfl⟩ : ∃ wa : World, wa = wr := ⟨_, rfl⟩
                have HT := Lib.hid hT; have HM := Lib.hid hM; have HB1 := Lib.hid hb1; have HB2 := Lib.hid hb2
                clear hT hM hb1 hb2
                have i0 : (0 : Int) ≤ (t : Int) := by omega
                by_cases hlt : t < N
                · have i1 : (t : Int) < (N : Int) := by omega
                  have hAr := HA.out.below HT.out.bel (Nat.le_refl _)
                  have htl : t < (arcsQ m k).length := by rw [HNN.out]; exact hlt
                  have d0 := hAr.c0 t htl; have d1 := hAr.c1 t htl; have d2' := hAr.c2 t htl; have d3 := hAr.c3 t htl
                  have HK := Lib.hid (HM.out.keep htl); have HSE := Lib.hid (HM.out.set HOK.out htl)
                  have hmem := List.getElem_mem htl
                  have ht0 := HOK.out.to0 k _ hmem
                  have hw0 := HOK.out.wt0 k _ hmem
                  have hw1 := HW.out k _ hmem
                  generalize (arcsQ m k)[t] = a at *
                  obtain ⟨ht0, ht1⟩ := ht0
                  have lA : blk A' < wt.heap.size := World.block_lt_of_cell? _ _ d0
                  clear hAr hmem htl
                  go_upto_region 22 with fail
                  have x0 : (wt.alloc (.cells #[.int .i64 a.inn, .int .i64 a.out, .int .i64 a.wt, .int .i64 a.to] 42)).cell? ⟨wt.heap.size, 2, none⟩ = some (.int .i64 a.wt) := by simp [go_sem]
                  have bx : Below wt.heap.size wt (wt.alloc (.cells #[.int .i64 a.inn, .int .i64 a.out, .int .i64 a.wt, .int .i64 a.to] 42)) := (by repeat' (first | exact Below.refl _ _ | assumption | refine Below.drew ?_ | refine Below.alloc ?_ (by first | omega | (simp; done) | (simp; omega)) _ | refine Below.setCell ?_ (by first | omega | (simp; done) | (simp; omega)) _))
                  have BX := Lib.hid (show Blk (wt.alloc (.cells #[.int .i64 a.inn, .int .i64 a.out, .int .i64 a.wt, .int .i64 a.to] 42)) wt.heap.size #[.int .i64 a.inn, .int .i64 a.out, .int .i64 a.wt, .int .i64 a.to] 42 from Blk.new _ _ _)
                  have HT3 := Lib.hid (HT.out.keep bx)
                  generalize wt.alloc (.cells #[.int .i64 a.inn, .int .i64 a.out, .int .i64 a.wt, .int .i64 a.to] 42) = wu at *
                  generalize wt.heap.size = gx at *
                  have kk := HT3.out.cb.cell k
                  rw [numA_get _ _ (by rw [HM.out.cl]; exact hk)] at kk
                  have hk0 := HM.out.done k HM.out.dk
                  have hkB := HB2.out
                  obtain ⟨y, hy⟩ : ∃ y, cg cl k = y := ⟨_, rfl⟩
                  have HY := Lib.hid hy
                  rw [hy] at kk hk0 hkB
                  clear d0 d1 d2' d3 hy bx lA
                  have s1 : IntKind.i64.wrap (y + a.wt) = y + a.wt := IntWalk.i64_in _ (by omega)
                  have l1 := HT3.out.cb.lt; have l2 := BX.out.lt
                  go_quiet (fail)
                  clear s1 kk x0 l1 l2
                  have HT4 := Lib.hid (HT3.out.keep (bel_drewN wu nq))
                  have BX4 := Lib.hid (BX.out.step (bel_drewN wu nq))
                  clear HT3 BX
                  generalize wu.drewN nq = wv at *
                  have kb := BX4.out.cell; have lb := BX4.out.lt
                  go_wp2_with fail
                  refine (empty_any a _).mono ?_; rintro e w5 ⟨rfl, b5⟩
                  have HT5 := Lib.hid (HT4.out.keep b5)
                  have BX5 := Lib.hid (BX4.out.step b5)
                  clear HT4 BX4 kb lb b5
                  have kb := BX5.out.cell; have lb := BX5.out.lt
                  have kt := HT5.out.cb.cell a.to.toNat
                  rw [numA_get _ _ (by rw [HM.out.cl]; omega)] at kt
                  have lt5 := HT5.out.cb.lt; have ft5 := HT5.out.cb.froz a.to.toNat
                  cases he : emptyA a with
                  | false =>
                    have HK2 := Lib.hid (HK.out (fun h => by rw [he] at h; cases h))
                    clear he
                    go_wp2_with fail
                    go_roundw
                    case rel => exact ⟨t + 1, cl, by omega, by go_num, HT5.out, HK2.out, HB1.out, HB2.out⟩
                    case measure => simp [intOf]; omega
                  | true =>
                    obtain ⟨z, hz⟩ : ∃ z, cg cl a.to.toNat = z := ⟨_, rfl⟩
                    rw [hz] at kt
                    by_cases hc : z < 0 ∨ y + a.wt < z
                    · have HS2 := Lib.hid (HSE.out he (by rw [hz, HY.out]; exact hc))
                      rw [HY.out] at HS2
                      have HT6 := Lib.hid (HT5.out.setC a.to.toNat (y + a.wt))
                      have HB3 : Hid (∀ s, cg (cl.set a.to.toNat (y + a.wt)) s ≤ B + WW) := Lib.hid fun s => by
                        rw [cg_set _ _ _ _ (by rw [HM.out.cl]; omega)]
                        split
                        · omega
                        · exact HB1.out s
                      have HB4 : Hid (cg (cl.set a.to.toNat (y + a.wt)) k ≤ B) := Lib.hid (by
                        rw [cg_set _ _ _ _ (by rw [HM.out.cl]; omega)]
                        split
                        · rename_i e; rw [e, HY.out] at hz; omega
                        · exact HB2.out)
                      clear he hz
                      rcases hc with hc | hc
                      · go_wp2_with fail
                        go_roundw
                        case rel => exact ⟨t + 1, _, by omega, by go_num, HT6.out, HS2.out, HB3.out, HB4.out⟩
                        case measure => simp [intOf]; omega
                      · by_cases hc0 : z < 0
                        · clear hc
                          go_wp2_with fail
                          go_roundw
                          case rel => exact ⟨t + 1, _, by omega, by go_num, HT6.out, HS2.out, HB3.out, HB4.out⟩
                          case measure => simp [intOf]; omega
                        · go_wp2_with fail
                          go_roundw
                          case rel => exact ⟨t + 1, _, by omega, by go_num, HT6.out, HS2.out, HB3.out, HB4.out⟩
                          case measure => simp [intOf]; omega
                    · have HK2 := Lib.hid (HK.out (fun _ => by rw [hz, HY.out]; omega))
                      have hc1 : ¬ z < 0 := by omega
                      have hc2 : ¬ y + a.wt < z := by omega
                      clear he hz hc
                      go_wp2_with fail
                      go_roundw
                      case rel => exact ⟨t + 1, cl, by omega, by go_num, HT5.out, HK2.out, HB1.out, HB2.out⟩
                      case measure => simp [intOf]; omega
                · have HC := Lib.hid (HM.out.close (by rw [HNN.out]; omega))
                  have HB5 : Hid (∀ s, cg cl s ≤ ((m.states.length : Int) - (fls d2 : Nat)) * WW) := Lib.hid fun s => by have := HB1.out s; rw [HBE.out] at this; exact this
                  have hg1 := HGL.out; have hg2 := HFL.out
                  go_wp2_with fail
                  go_roundg (gk - 1)
                  case rel => exact ⟨_, _, HT.out, HC.out, HB5.out, by omega⟩
                  case measure => omega
end Go.Proofs.Ytlfjccgbngnjhaa
