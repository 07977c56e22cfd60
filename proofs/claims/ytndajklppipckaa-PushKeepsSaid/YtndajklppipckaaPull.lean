/- push.Pull. -/
import Derived.Test.YtndajklppipckaaPushCost
import Derived.Test.YtndajklppipckaaMemWt
import Derived.LoopTactic
import Derived.IntWalk
import Derived.Deep.DeepCutAuto
import Derived.Deep.CutBlock
namespace Go.Proofs.Ytndajklppipckaa
open Go.RowKit

/-- the first q states are pulled -/
def pullPart (n : Int) (ss : List StateL) (q : Nat) : List StateL := ss.mapIdx fun i s => if i < q then pullState n s else s
theorem pullPart_len (n : Int) (ss : List StateL) (q : Nat) : (pullPart n ss q).length = ss.length := by simp [pullPart]
theorem pullPart_zero (n : Int) (ss : List StateL) : pullPart n ss 0 = ss := by
  unfold pullPart
  apply List.ext_getElem
  · simp
  · intro i h1 h2; simp
theorem pullPart_all (n : Int) (t : MachL) : (⟨t.start, pullPart n t.states t.states.length⟩ : MachL) = pullM n t := by
  unfold pullM pullPart
  congr 1
  apply List.ext_getElem
  · simp
  · intro i h1 h2
    simp only [List.length_mapIdx] at h1
    simp only [List.getElem_mapIdx, List.getElem_map]
    rw [if_pos h1]
theorem pullPart_get (n : Int) (ss : List StateL) (q : Nat) (hq : q < ss.length) : (pullPart n ss q)[q]'(by rw [pullPart_len]; exact hq) = ss[q] := by simp [pullPart]
theorem pullPart_set (n : Int) (ss : List StateL) (q : Nat) (hq : q < ss.length) : (pullPart n ss q).set q (pullState n ss[q]) = pullPart n ss (q + 1) := by
  apply List.ext_getElem
  · simp [pullPart]
  · intro i h1 h2
    simp only [pullPart_len] at h2
    by_cases e : q = i
    · subst e; simp [pullPart]
    · rw [List.getElem_set_ne e]
      simp only [pullPart, List.getElem_mapIdx]
      by_cases h : i < q
      · rw [if_pos h, if_pos (by omega)]
      · rw [if_neg h, if_neg (by omega)]
theorem pullPart_skip (n : Int) (ss : List StateL) (q : Nat) (hq : q < ss.length) (hf : ss[q].final = 1000000001) : pullPart n ss q = pullPart n ss (q + 1) := by
  rw [← pullPart_set n ss q hq]
  apply List.ext_getElem
  · simp
  · intro i h1 h2
    by_cases e : q = i
    · subst e
      rw [List.getElem_set_self, pullPart_get n ss q hq]
      unfold pullState
      rw [if_pos hf]
    · rw [List.getElem_set_ne e]

/-- Pull's memory -/
structure QWS (w : World) (Mb : Nat) (st : Int) (A : Option Addr) (n cap : Nat) (vs : List Value) (W : World) (ss : List StateL) : Prop where
  mb : Blk W Mb #[.int .i64 st, .slice A n cap] 31
  rb : Blk W (w.heap.size + 1) #[.int .i64 0, .slice none 0 0] 31
  own : OwnStV W (w.heap.size + 2) (.slice A n cap) vs ss
  bel : Below w.heap.size w W
  hM : w.heap.size + 2 ≤ Mb
section
variable {w W W' : World} {Mb n cap : Nat} {st : Int} {A : Option Addr} {vs : List Value} {ss : List StateL}
theorem QWS.addr (h : QWS w Mb st A n cap vs W ss) (h0 : 0 < ss.length) : ∃ g, A = some ⟨g, 0, none⟩ ∧ w.heap.size + 2 ≤ g ∧ g < W.heap.size ∧ g ≠ Mb := by
  obtain ⟨g, c, e, h1, h2, -⟩ := h.own.addr h0
  simp at e
  obtain ⟨e1, e2, -⟩ := e
  have k1 := own_blk_ne h.own.row h.mb (by decide)
  subst e1
  exact ⟨g, rfl, h1, h2, fun e => k1 (by rw [← e]; rfl)⟩
theorem QWS.setFinal (h : QWS w Mb st A n cap vs W ss) (q : Nat) (hq : q < ss.length) {g : Nat} (hA : A = some ⟨g, 0, none⟩) (f : Int) : QWS w Mb st A n cap vs (W.setCell ⟨g, q * 2, none⟩ (.int .i64 f)) (ss.set q ⟨f, ss[q].arcs⟩) := by
  obtain ⟨g', e, h1, h2, h3⟩ := h.addr (by omega)
  rw [hA] at e
  simp at e
  subst e
  subst hA
  exact ⟨h.mb.far (by simpa using fun e : Mb = g => h3 e.symm) _, h.rb.far (by simp; omega) _, h.own.setFinal q hq f, h.bel.setCell (by simp; omega) _, h.hM⟩
end

set_option maxRecDepth 100000 in
set_option maxHeartbeats 8000000 in
theorem Pull_any (v : Value) (m : MachL) (n : Int) (w : World) (hm : MachAt w v m) (hv : Valid m) (hn0 : 0 ≤ n) (hn1 : n ≤ 1000000)
    (hf : ∀ s ∈ (trimM m).states, s.final ≠ 1000000001 → s.final ≤ 1000000 ∧ 0 ≤ s.final) :
    Calls Try.prog 33 #[v, .int .i64 n] w fun e w' => ∃ mv, e = .returned (.tuple #[mv, .int .i64 0]) ∧ OwnMach w' w.heap.size mv (pullM n (trimM m)) ∧ Below w.heap.size w w' := by
  have TR := Lib.hid (fun W (hb : Below w.heap.size w W) => Trim_any v m W (hm.below hb) hv)
  have htv := trim_valid hv
  obtain ⟨A, c, rfl, hS⟩ := hm
  generalize trimM m = t at *
  generalize m.start = st0 at *
  generalize m.states.length = n0 at *
  have hsz := htv.size
  have HF := Lib.hid hf
  clear hS hv hf htv
  go_enter Try.func33, Try.ntmps33
  go_wp2_with fail
  refine (TR.out _ (by repeat' (first | exact Below.refl _ _ | assumption | refine Below.drew ?_ | refine Below.alloc ?_ (by first | omega | (simp; done) | (simp; omega)) _ | refine Below.setCell ?_ (by first | omega | (simp; done) | (simp; omega)) _))).mono ?_; rintro e w1 ⟨mv, rfl, ⟨sv, rfl, vs, hO⟩, r1⟩
  obtain ⟨A1, c1, rfl, -, -⟩ := own_form hO.row
  have hO := hO.mono (B' := w.heap.size + 2) (by simp)
  have X2 : Blk w1 (w.heap.size + 1) #[.int .i64 0, .slice none 0 0] 31 := Blk.step (Blk.new' (by simp)) r1
  have b1 : Below w.heap.size w w1 := ((by repeat' (first | exact Below.refl _ _ | assumption | refine Below.drew ?_ | refine Below.alloc ?_ (by first | omega | (simp; done) | (simp; omega)) _ | refine Below.setCell ?_ (by first | omega | (simp; done) | (simp; omega)) _)) : Below w.heap.size w _).trans (r1.mono (by simp; omega))
  have hsz1 : w.heap.size + 2 ≤ w1.heap.size := by have := r1.size; simp at this; omega
  have bA : Below w1.heap.size w1 (w1.alloc (.cells #[.int .i64 t.start, .slice A1 t.states.length c1] 31)) := (Below.refl _ _).alloc (Nat.le_refl _) _
  have P0 : QWS w w1.heap.size t.start A1 t.states.length c1 vs (w1.alloc (.cells #[.int .i64 t.start, .slice A1 t.states.length c1] 31)) (pullPart n t.states 0) := by
    rw [pullPart_zero]
    exact ⟨Blk.new' rfl, X2.step bA, hO.below bA (Nat.le_refl _), b1.trans (bA.mono b1.size), hsz1⟩
  have HP0 := Lib.hid P0
  clear r1 TR hO X2 b1 P0
  go_wp2_with fail
  generalize w1.alloc (.cells #[.int .i64 t.start, .slice A1 t.states.length c1] 31) = w2 at *
  generalize hMb : w1.heap.size = Mb at *
  clear hMb bA
  go_loopw [29] (fun iv wr => ∃ q : Nat, q ≤ t.states.length ∧ iv = .int .i64 q ∧ QWS w Mb t.start A1 t.states.length c1 vs wr (pullPart n t.states q)) (fun iv _ => t.states.length - (intOf iv).toNat)
  case atStart => exact ⟨0, by omega, rfl, HP0.out⟩
  case round =>
    obtain ⟨q, hq, rfl, hW⟩ := hrel
    have HW := Lib.hid hW
    have kmb := hW.mb.cell; have lmb := hW.mb.lt
    by_cases hlt : q < t.states.length
    · have hpl := pullPart_len n t.states q
      obtain ⟨g, rfl, hg1, hg2, hg3⟩ := hW.addr (by omega)
      have hget := pullPart_get n t.states q hlt
      have c0 := (OwnSt.at_ ⟨vs, hW.own⟩).2.c0 q (by omega)
      rw [hget] at c0
      simp only [blk_some, ofs_some, Nat.zero_add] at c0
      have fz := hW.own.froz (q * 2)
      have hset := pullPart_set n t.states q hlt
      have hskip := pullPart_skip n t.states q hlt
      have hfin := HF.out _ (List.getElem_mem hlt)
      have HGET := Lib.hid hget; have HSET := Lib.hid hset; have HSK := Lib.hid hskip
      clear hget hset hskip hW
      generalize t.states[q] = s at *
      have HFN := Lib.hid hfin
      clear hfin
      have i0 : (0 : Int) ≤ ↑q := by omega
      have i1 : (↑q : Int) < ↑t.states.length := by omega
      by_cases hf : s.final = 1000000001
      · have e1 : (s.final == 1000000001) = true := by simpa using hf
        have HSK2 := Lib.hid (HSK.out hf)
        go_wp2_with fail
        go_roundw
        case rel => exact ⟨q + 1, by omega, by go_num, by rw [← HSK2.out]; exact HW.out⟩
        case measure => simp [intOf]; omega
      · have e1 : (s.final == 1000000001) = false := by simpa using hf
        obtain ⟨h1, h2⟩ := HFN.out hf
        have hwr : IntKind.i64.wrap (s.final + n) = s.final + n := IntWalk.i64_in _ (by omega)
        have h3 : ¬ 1000000000 < s.final + n := by omega
        have HPS : Hid (pullState n s = ⟨s.final + n, s.arcs⟩) := Lib.hid (by unfold pullState; rw [if_neg hf])
        go_wp2_with fail
        go_roundw
        case rel =>
          have h := HW.out.setFinal q (by rw [pullPart_len]; exact hlt) rfl (s.final + n)
          have e : (⟨s.final + n, (pullPart n t.states q)[q].arcs⟩ : StateL) = pullState n s := by rw [HGET.out, HPS.out]
          rw [e, HSET.out] at h
          exact ⟨q + 1, by omega, by go_num, h⟩
        case measure => simp [intOf]; omega
    · obtain rfl : q = t.states.length := by omega
      have i1 : ¬ (↑t.states.length : Int) < ↑t.states.length := by omega
      have krb := hW.rb.cell; have lrb := hW.rb.lt; have frb := hW.rb.froz
      have HALL := Lib.hid (pullPart_all n t)
      have hMb := hW.hM
      clear hW
      go_wp2_with fail
      refine bodyPost_ret (v := .tuple #[.agg #[.int .i64 t.start, .slice A1 t.states.length c1], .int .i64 0]) (by simp [results, Try.results33, go_sem, *]) rfl ⟨_, rfl, ?_, ?_⟩
      · rw [← HALL.out]
        exact ⟨_, rfl, vs, ((HW.out.own.setCell (a := ⟨w.heap.size + 1, 0, none⟩) (by simp) _).setCell (a := ⟨w.heap.size + 1, 1, none⟩) (by simp) _).mono (by omega)⟩
      · exact (HW.out.bel.setCell (by simp) _).setCell (by simp) _
end Go.Proofs.Ytndajklppipckaa
