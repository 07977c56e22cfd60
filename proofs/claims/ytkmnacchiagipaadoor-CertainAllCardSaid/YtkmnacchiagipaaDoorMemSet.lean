/- A state of a machine of the call's own gets other arcs. -/
/- tropicakeep.forward. -/
import Derived.Test.YtkmnacchiagipaaDoorMem
import Derived.Test.YtkmnacchiagipaaDoorOrderPlain
import Derived.Test.YtkmnacchiagipaaDoorBuild
import Derived.Test.YtkmnacchiagipaaDoorMade
import Derived.LoopTactic
import Derived.IntWalk
import Derived.Deep.DeepCutAuto
namespace Go.Proofs.YtkmnacchiagipaaDoor
open Go.RowKit

theorem statesCells_set1 (l : List (Int × Value)) (q : Nat) (hq : q < l.length) (u : Value) : (statesCells l).set (q * 2 + 1) u = statesCells (l.set q (l[q].1, u)) := by
  induction l generalizing q with
  | nil => simp at hq
  | cons p l ih =>
    cases q with
    | zero => simp [statesCells, stCells]
    | succ q =>
      have e : (q + 1) * 2 + 1 = (q * 2 + 1) + 1 + 1 := by omega
      have := ih q (by simpa using hq)
      simp only [statesCells, List.flatMap_cons, stCells, List.cons_append, List.nil_append, List.set_cons_succ, List.getElem_cons_succ, e] at this ⊢
      rw [this]
theorem statesCells_set0 (l : List (Int × Value)) (q : Nat) (hq : q < l.length) (n : Int) : (statesCells l).set (q * 2) (.int .i64 n) = statesCells (l.set q (n, l[q].2)) := by
  induction l generalizing q with
  | nil => simp at hq
  | cons p l ih =>
    cases q with
    | zero => simp [statesCells, stCells]
    | succ q =>
      have e : (q + 1) * 2 = (q * 2) + 1 + 1 := by omega
      have := ih q (by simpa using hq)
      simp only [statesCells, List.flatMap_cons, stCells, List.cons_append, List.nil_append, List.set_cons_succ, List.getElem_cons_succ, e] at this ⊢
      rw [this]
theorem zip_set_snd {α β : Type} (l : List α) (m : List β) (q : Nat) (h : q < (l.zip m).length) (u : β) : (l.zip m).set q ((l.zip m)[q].1, u) = l.zip (m.set q u) := by
  induction l generalizing m q with
  | nil => simp at h
  | cons a l ih =>
    cases m with
    | nil => simp at h
    | cons b m =>
      cases q with
      | zero => simp
      | succ q =>
        simp only [List.zip_cons_cons, List.set_cons_succ, List.getElem_cons_succ]
        rw [ih m q (by simpa using h)]
theorem zip_set_fst {α β : Type} (l : List α) (m : List β) (q : Nat) (h : q < (l.zip m).length) (u : α) : (l.zip m).set q (u, (l.zip m)[q].2) = (l.set q u).zip m := by
  induction l generalizing m q with
  | nil => simp at h
  | cons a l ih =>
    cases m with
    | nil => simp at h
    | cons b m =>
      cases q with
      | zero => simp
      | succ q =>
        simp only [List.zip_cons_cons, List.set_cons_succ, List.getElem_cons_succ]
        rw [ih m q (by simpa using h)]
theorem final_set (ss : List StateL) (q : Nat) (hq : q < ss.length) (l : List ArcL) : (ss.set q ⟨ss[q].final, l⟩).map (·.final) = ss.map (·.final) := by
  rw [List.map_set]
  apply List.ext_getElem
  · simp
  · intro i h1 h2
    by_cases e : q = i
    · subst e; simp
    · simp [List.getElem_set_ne e]

theorem OwnStV.setArcs {w : World} {B g n c : Nat} {vs : List Value} {ss : List StateL} (h : OwnStV w B (.slice (some ⟨g, 0, none⟩) n c) vs ss) (q : Nat) (hq : q < ss.length) {av : Value} {l : List ArcL} (ha : OwnArcs w B av l) :
    OwnStV (w.setCell ⟨g, q * 2 + 1, none⟩ av) B (.slice (some ⟨g, 0, none⟩) n c) (vs.set q av) (ss.set q ⟨ss[q].final, l⟩) := by
  have hz : q < ((ss.map (·.final)).zip vs).length := by simp [h.len]; exact hq
  obtain ⟨A', c', hv, -, -⟩ := own_form h.row
  obtain rfl : n = ss.length := by simp at hv; exact hv.2.1
  have hr := (h.row.stored (q * 2 + 1) av).1
  have ne : ∀ {v : Value} {l : List ArcL}, OwnArcs w B v l → v.ownBlock ≠ some g := fun {v l} k => by
    rcases own_ne k h.row (by decide) with e | e
    · rw [e]; simp
    · simpa [Value.ownBlock] using e
  refine ⟨by simp [h.len], ?_, fun i hi hi' => ?_⟩
  · rw [statesCells_set1 _ _ hz, zip_set_snd] at hr
    rw [final_set _ _ hq, List.length_set]
    exact hr
  · by_cases e : q = i
    · subst e
      simp only [List.getElem_set_self]
      exact ha.setCell (ne ha) _
    · rw [List.getElem_set_ne e]
      rw [List.getElem_set_ne e]
      have k := h.arcs i (by simpa using hi) (by simpa using hi')
      exact k.setCell (ne k) _
theorem OwnStV.setFinal {w : World} {B g n c : Nat} {vs : List Value} {ss : List StateL} (h : OwnStV w B (.slice (some ⟨g, 0, none⟩) n c) vs ss) (q : Nat) (hq : q < ss.length) (f : Int) :
    OwnStV (w.setCell ⟨g, q * 2, none⟩ (.int .i64 f)) B (.slice (some ⟨g, 0, none⟩) n c) vs (ss.set q ⟨f, ss[q].arcs⟩) := by
  have hz : q < ((ss.map (·.final)).zip vs).length := by simp [h.len]; exact hq
  obtain ⟨A', c', hv, -, -⟩ := own_form h.row
  obtain rfl : n = ss.length := by simp at hv; exact hv.2.1
  have hr := (h.row.stored (q * 2) (.int .i64 f)).1
  have ne : ∀ {v : Value} {l : List ArcL}, OwnArcs w B v l → v.ownBlock ≠ some g := fun {v l} k => by
    rcases own_ne k h.row (by decide) with e | e
    · rw [e]; simp
    · simpa [Value.ownBlock] using e
  refine ⟨by simp [h.len], ?_, fun i hi hi' => ?_⟩
  · rw [statesCells_set0 _ _ hz, zip_set_fst] at hr
    rw [List.length_set, List.map_set]
    exact hr
  · have k := h.arcs i (by simpa using hi) (by simpa using hi')
    by_cases e : q = i
    · subst e
      simp only [List.getElem_set_self]
      exact k.setCell (ne k) _
    · rw [List.getElem_set_ne e]
      exact k.setCell (ne k) _
/-- where a row of states of the call's own lies -/
theorem OwnStV.addr {w : World} {B : Nat} {v : Value} {vs : List Value} {ss : List StateL} (h : OwnStV w B v vs ss) (h0 : 0 < ss.length) : ∃ g c, v = .slice (some ⟨g, 0, none⟩) ss.length c ∧ B ≤ g ∧ g < w.heap.size ∧ c ≤ maxLen := by
  rcases h.row.2 with ⟨_, e⟩ | ⟨g, cap, cur, rfl, hb, hg, _, hm, _⟩
  · omega
  · exact ⟨g, cap, rfl, hb, (Array.getElem?_eq_some_iff.1 hg).1, hm⟩
end Go.Proofs.YtkmnacchiagipaaDoor

namespace Go.Proofs.YtkmnacchiagipaaDoor
open Go.RowKit

theorem OwnStV.neM {w : World} {B : Nat} {v : Value} {vs : List Value} {ss : List StateL} (h : OwnStV w B v vs ss) {b : Nat} {cs : Array Value} {t : TypeId} (hb : Blk w b cs t) (h1 : t ≠ 76) (h2 : t ≠ 78) (o : Nat) (u : Value) : OwnStV (w.setCell ⟨b, o, none⟩ u) B v vs ss := by
  have key : ∀ {e : TypeId} {sz n : Nat} {v : Value} {xs : List Value}, w.ownsRow B e sz v n xs → t ≠ e → v.ownBlock ≠ some b := by
    intro e sz n v xs hr hne hv
    rcases hr.2 with ⟨rfl, _⟩ | ⟨g, cap, cur, rfl, _, hg, _⟩
    · simp [Value.ownBlock] at hv
    · simp [Value.ownBlock] at hv
      subst hv
      unfold Blk at hb
      rw [hb] at hg
      simp at hg
      exact hne hg.2
  exact ⟨h.len, own_setCell h.row (key h.row h1) u, fun i hi hi' => (h.arcs i hi hi').setCell (key (h.arcs i hi hi') h2) u⟩

/-- rows that share no block -/
def ApartV (vs : List Value) : Prop := ∀ i j (hi : i < vs.length) (hj : j < vs.length), i ≠ j → vs[i].ownBlock = none ∨ vs[i].ownBlock ≠ vs[j].ownBlock
/-- the first q of them share none, and lie below N -/
structure ApK (vs : List Value) (q N : Nat) : Prop where
  ne : ∀ i j (hi : i < vs.length) (hj : j < vs.length), i < q → j < q → i ≠ j → vs[i].ownBlock = none ∨ vs[i].ownBlock ≠ vs[j].ownBlock
  lt : ∀ i (hi : i < vs.length), i < q → ∀ b, vs[i].ownBlock = some b → b < N
theorem ApK.start (vs : List Value) (N : Nat) : ApK vs 0 N := ⟨fun i j _ _ h => by omega, fun i _ h => by omega⟩
theorem ApK.set {vs : List Value} {q N N' : Nat} (h : ApK vs q N) {av : Value} (ha : ∀ b, av.ownBlock = some b → N ≤ b ∧ b < N') (hN : N ≤ N') : ApK (vs.set q av) (q + 1) N' := by
  refine ⟨fun i j hi hj h1 h2 hij => ?_, fun i hi h1 b hb => ?_⟩
  · rw [List.length_set] at hi hj
    by_cases e1 : q = i
    · subst e1
      have e2 : q ≠ j := hij
      rw [List.getElem_set_self, List.getElem_set_ne e2]
      cases hb : av.ownBlock with
      | none => exact .inl rfl
      | some b =>
        right
        intro e
        have := h.lt j hj (by omega) b e.symm
        have := ha b hb
        omega
    · rw [List.getElem_set_ne e1]
      by_cases e2 : q = j
      · subst e2
        rw [List.getElem_set_self]
        cases hb : vs[i].ownBlock with
        | none => exact .inl rfl
        | some b =>
          right
          intro e
          have := h.lt i hi (by omega) b hb
          have := ha b e.symm
          omega
      · rw [List.getElem_set_ne e2]
        exact h.ne i j hi hj (by omega) (by omega) hij
  · rw [List.length_set] at hi
    by_cases e1 : q = i
    · subst e1
      rw [List.getElem_set_self] at hb
      exact (ha b hb).2
    · rw [List.getElem_set_ne e1] at hb
      have := h.lt i hi (by omega) b hb
      omega
theorem ApK.all {vs : List Value} {q N : Nat} (h : ApK vs q N) (hq : vs.length ≤ q) : ApartV vs := fun i j hi hj hij => h.ne i j hi hj (by omega) (by omega) hij
theorem ApK.cell {vs : List Value} {q : Nat} {W : World} {a : Addr} {u : Value} (h : ApK vs q W.heap.size) : ApK vs q (W.setCell a u).heap.size := by
  rw [show (W.setCell a u).heap.size = W.heap.size by simp [World.setCell]]; exact h
/-- forward's memory -/
structure FWS (w : World) (Mb g n cap : Nat) (W : World) (vs : List Value) (ss : List StateL) : Prop where
  mb : Blk W Mb #[.int .i64 0, .slice (some ⟨g, 0, none⟩) n cap] 41
  rb : Blk W (w.heap.size + 1) #[.int .i64 0, .slice none 0 0] 41
  own : OwnStV W (w.heap.size + 2) (.slice (some ⟨g, 0, none⟩) n cap) vs ss
  bel : Below w.heap.size w W
  hM : w.heap.size + 2 ≤ Mb
  hg : w.heap.size + 2 ≤ g
  hn : g < Mb
section
variable {w W W' : World} {Mb g n cap : Nat} {vs : List Value} {ss : List StateL}
theorem FWS.keep (h : FWS w Mb g n cap W vs ss) (hb : Below W.heap.size W W') : FWS w Mb g n cap W' vs ss :=
  ⟨h.mb.step hb, h.rb.step hb, h.own.below hb (Nat.le_refl _), h.bel.trans (hb.mono h.bel.size), h.hM, h.hg, h.hn⟩
theorem FWS.set (h : FWS w Mb g n cap W vs ss) (q : Nat) (hq : q < ss.length) {av : Value} {l : List ArcL} {B : Nat} (hB : w.heap.size + 2 ≤ B) (ha : OwnArcs W B av l) {f : Int} (hf : f = ss[q].final) : FWS w Mb g n cap (W.setCell ⟨g, q * 2 + 1, none⟩ av) (vs.set q av) (ss.set q ⟨f, l⟩) := by
  subst hf
  have a1 := h.hM; have a2 := h.hg; have a3 := h.hn
  exact ⟨h.mb.far (by simp; omega) _, h.rb.far (by simp; omega) _, h.own.setArcs q hq (ha.mono hB), h.bel.setCell (by simp; omega) _, a1, a2, a3⟩
end

set_option maxRecDepth 100000 in
set_option maxHeartbeats 8000000 in
theorem forward_anyA (v : Value) (r : RawL) (k : Int) (w : World) (hr : RawArg w v r) (k1 : 1 ≤ k) (k2 : k ≤ 60) :
    Calls Tryd.prog 29 #[v, .int .i64 k] w fun e w' => ∃ sv vs, e = .returned (.agg #[.int .i64 (fwdM (mkMach r k false)).start, sv]) ∧ OwnStV w' w.heap.size sv vs (fwdM (mkMach r k false)).states ∧ ApartV vs ∧ Below w.heap.size w w' := by
  have MA := Lib.hid (fun W (hb : Below w.heap.size w W) => made_any v r k false W (hr.below hb) k1 k2)
  have hv : Valid (mkMach r k false) := valid_made r k false k1 k2
  have hln : 1 ≤ (mkMach r k false).states.length := by have := mkMach_len r k false k1; have : 1 ≤ mkN r k := by unfold mkN; omega
                                                        omega
  have HR := Lib.hid hr
  obtain ⟨hst, hlen, A, c, rfl, hNd⟩ := hr
  have HF := Lib.hid (fwdPart_full (mkMach r k false))
  have hsz := hv.size
  have HV := Lib.hid (fun s hs => (hv.st s hs).2)
  have HAL := Lib.hid (fun (s : StateL) (hs : s ∈ (mkMach r k false).states) => (show s.arcs.length ≤ 400 by have h3 := hv.arcs; have := arcs_le_of (mkMach r k false).states s hs; omega))
  clear hv hNd
  generalize mkMach r k false = m at *
  go_enter Tryd.func29, Tryd.ntmps29
  go_wp2_with fail
  refine (MA.out _ (by repeat' (first | exact Below.refl _ _ | assumption | refine Below.drew ?_ | refine Below.alloc ?_ (by first | omega | (simp; done) | (simp; omega)) _ | refine Below.setCell ?_ (by first | omega | (simp; done) | (simp; omega)) _))).mono ?_
  rintro e w1 ⟨mv, rfl, hO, r1⟩
  obtain ⟨sv, rfl, vs, hV⟩ := hO
  obtain ⟨g, cap, rfl, hgB, hglt, -⟩ := hV.addr (by omega)
  have hgB : w.heap.size + 2 ≤ g := by simp at hgB; omega
  have hV := hV.mono (B' := w.heap.size + 2) (by simp)
  have b1 : Below w.heap.size w w1 := ((by repeat' (first | exact Below.refl _ _ | assumption | refine Below.drew ?_ | refine Below.alloc ?_ (by first | omega | (simp; done) | (simp; omega)) _ | refine Below.setCell ?_ (by first | omega | (simp; done) | (simp; omega)) _)) : Below w.heap.size w _).trans (r1.mono (by simp; omega))
  have X2 : Blk w1 (w.heap.size + 1) #[.int .i64 0, .slice none 0 0] 41 := Blk.step (Blk.new' (by simp)) r1
  have lX := X2.lt
  have HV1 := Lib.hid hV
  clear r1 MA hV HR
  go_wp2_with fail
  have F0 : FWS w w1.heap.size g m.states.length cap (w1.alloc (.cells #[.int .i64 0, .slice (some ⟨g, 0, none⟩) m.states.length cap] 41)) vs (fwdPart m.states 0) := by
    rw [fwdPart_zero]
    exact ⟨Blk.new' rfl, X2.alloc _, HV1.out.below ((Below.refl _ _).alloc (Nat.le_refl _) _) (Nat.le_refl _), b1.alloc b1.size _, by omega, hgB, hglt⟩
  have HF0 := Lib.hid F0
  clear F0 X2 b1 HV1
  generalize w1.alloc (.cells #[.int .i64 0, .slice (some ⟨g, 0, none⟩) m.states.length cap] 41) = w2 at *
  generalize hMb : w1.heap.size = Mb at *
  clear hMb
  go_loopw [7] (fun iv wr => ∃ (q : Nat) (vs : List Value), q ≤ m.states.length ∧ iv = .int .i64 q ∧ FWS w Mb g m.states.length cap wr vs (fwdPart m.states q) ∧ ApK vs q wr.heap.size) (fun iv _ => m.states.length - (intOf iv).toNat)
  case atStart => exact ⟨0, _, by omega, rfl, HF0.out, ApK.start _ _⟩
  case round =>
    obtain ⟨q, vs, hq, rfl, hW, hAp⟩ := hrel
    have HW := Lib.hid hW; have HAP := Lib.hid hAp
    clear hAp
    have kmb := hW.mb.cell; have lmb := hW.mb.lt; have lrb := hW.rb.lt; have krb := hW.rb.cell
    have frb := hW.rb.froz
    by_cases hlt : q < m.states.length
    · have hget := fwdPart_get m.states q hlt
      have hset := fwdPart_set m.states q hlt
      have hfl := fwdPart_len m.states q
      have hfi : (fwdPart m.states q)[q]?.map (·.final) = some m.states[q].final := by rw [List.getElem?_eq_getElem (by omega), hget]; rfl
      obtain ⟨-, hSt⟩ := OwnSt.at_ ⟨vs, hW.own⟩
      have e1 := hSt.c1 q (by omega)
      rw [hget] at e1
      obtain ⟨A', c', d1, hA'⟩ := e1
      simp only [blk_some, ofs_some, Nat.zero_add] at d1
      have hva := HV.out _ (List.getElem_mem hlt)
      have hal := HAL.out _ (List.getElem_mem hlt)
      have HSET := Lib.hid hset; have HVA := Lib.hid hva; have HA := Lib.hid hA'; have HFI := Lib.hid hfi
      have rdA := hA'.rdy
      generalize m.states[q] = s at *
      have hf1 := hW.hg; have hf2 := hW.hn
      have lg : g < wr.heap.size := World.block_lt_of_cell? _ _ d1
      have fg : wr.frozen? ⟨g, q * 2 + 1, none⟩ = false := by
        have h1 := hW.own.row
        rcases h1.2 with ⟨h2, _⟩ | ⟨g', cap', cur', h2, _, hg, _⟩
        · simp at h2
        · simp at h2
          obtain ⟨rfl, -, -⟩ := h2
          simp [World.frozen?, hg]
      clear hget hset hfi hSt hva hA' hW krb frb lrb
      obtain ⟨wo, rfl⟩ : ∃ wo : World, wo = wr := ⟨_, rfl⟩
      go_wp2_with fail
      go_loopw [9, 8] (fun iv av wr => ∃ (t : Nat) (v : Value), v = av ∧ t ≤ s.arcs.length ∧ iv = .int .i64 t ∧ (q + 1 < m.states.length ∨ t = 0) ∧ wr.ownsRow wo.heap.size 78 4 v t (arcsCells ((s.arcs.take t).map (fwdA m.states.length q))) ∧ Below wo.heap.size wo wr) (fun iv _ _ => s.arcs.length - (intOf iv).toNat)
      case atStart => exact ⟨0, _, rfl, by omega, rfl, .inr rfl, World.ownsRow_nil _ _ _ _, Below.refl _ _⟩
      case round =>
        obtain ⟨t, av, rfl, ht, rfl, hor, hO, bel⟩ := hrel
        have HWr := Lib.hid (HW.out.keep bel)
        have kmr := fun o => (bel.cell (p := ⟨Mb, o, none⟩) lmb).trans (kmb o)
        have lmr : Mb < wr.heap.size := Nat.lt_of_lt_of_le lmb bel.size
        have d1r := cell_keep bel (Nat.le_refl _) d1
        have lgr : g < wr.heap.size := Nat.lt_of_lt_of_le lg bel.size
        have fgr : wr.frozen? ⟨g, q * 2 + 1, none⟩ = false := (bel.frozen (p := ⟨g, q * 2 + 1, none⟩) lg).trans fg
        have i0 : (0 : Int) ≤ ↑q := by omega
        have i1 : (q : Int) < (m.states.length : Int) := by omega
        have i2 : (0 : Int) ≤ ↑t := by omega
        have HO := Lib.hid hO
        have hwr1 : IntKind.i64.wrap ((m.states.length : Int) - 1) = (m.states.length : Int) - 1 := IntWalk.i64_in _ (by omega)
        by_cases hlt2 : t < s.arcs.length
        · have i3 : (t : Int) < (s.arcs.length : Int) := by omega
          by_cases hq1 : q + 1 < m.states.length
          · have i4 : (q : Int) < (m.states.length : Int) - 1 := by omega
            have hAr := HA.out.below bel (Nat.le_refl _)
            have d2 := hAr.c0 t hlt2; have d3 := hAr.c1 t hlt2; have d4 := hAr.c2 t hlt2; have d5 := hAr.c3 t hlt2
            have hva := HVA.out _ (List.getElem_mem hlt2)
            have hsn : (s.arcs.take (t + 1)).map (fwdA m.states.length q) = (s.arcs.take t).map (fwdA m.states.length q) ++ [fwdA m.states.length q s.arcs[t]] := by rw [List.take_succ_eq_append_getElem hlt2, List.map_append]; rfl
            generalize s.arcs[t] = a at *
            have lA' := World.block_lt_of_cell? _ _ d2
            have hT0 := hva.t0; have hT1 := hva.t1
            have h7 := fwd_to hq1 (a := a)
            have hfw : fwdA m.states.length q a = ⟨a.inn, a.out, a.wt, (q : Int) + 1 + a.to % ((m.states.length : Int) - 1 - q)⟩ := rfl
            rw [hfw] at h7 hsn
            simp only at h7
            have HSN := Lib.hid hsn
            have hwr2 : IntKind.i64.wrap ((m.states.length : Int) - 1 - q) = (m.states.length : Int) - 1 - q := IntWalk.i64_in _ (by omega)
            have hwr3 : IntKind.i64.wrap ((q : Int) + 1) = (q : Int) + 1 := IntWalk.i64_in _ (by omega)
            have hwr4 : IntKind.i64.wrap ((q : Int) + 1 + a.to % ((m.states.length : Int) - 1 - q)) = (q : Int) + 1 + a.to % ((m.states.length : Int) - 1 - q) := IntWalk.i64_in _ (by omega)
            have hnz : (m.states.length : Int) - 1 - q ≠ 0 := by omega
            clear hva hAr hsn hfw hO
            go_upto_region 13 with fail
            generalize (q : Int) + 1 + a.to % ((m.states.length : Int) - 1 - q) = x at *
            have b5 := bel.alloc bel.size (.cells #[.int .i64 a.inn, .int .i64 a.out, .int .i64 a.wt, .int .i64 x] 78)
            have HO5 := Lib.hid (HO.out.alloc (.cells #[.int .i64 a.inn, .int .i64 a.out, .int .i64 a.wt, .int .i64 x] 78))
            have BA : Blk (wr.alloc (.cells #[.int .i64 a.inn, .int .i64 a.out, .int .i64 a.wt, .int .i64 x] 78)) wr.heap.size _ _ := Blk.new _ _ _
            have kA := BA.cell; have lAb := BA.lt
            clear kmr lmr d1r lgr fgr d2 d3 d4 d5 HWr
            generalize wr.alloc (.cells #[.int .i64 a.inn, .int .i64 a.out, .int .i64 a.wt, .int .i64 x] 78) = w5 at *
            go_wp2_with (at_builtin; (refine wpList_app1 rfl _ _ rfl eltArc wo.heap.size av t _ rfl w5 HO5.out #[.int .i64 a.inn, .int .i64 a.out, .int .i64 a.wt, .int .i64 x] rfl w5.heap.size rfl rfl rfl (by simp [Value.oneCell']) (by omega) (by omega) b5.size ?_); intro g4 cap4 w6 hown4 hg4 hat hlt4)
            have b6 := below_app b5 HO5.out hg4 (Nat.le_refl _) b5.size
            have HO6 : Hid (w6.ownsRow wo.heap.size 78 4 (.slice (some ⟨g4, 0, none⟩) (t + 1) cap4) (t + 1) (arcsCells ((s.arcs.take (t + 1)).map (fwdA m.states.length q)))) := Lib.hid (by rw [HSN.out, arcsCells_snoc]; exact hown4)
            clear hown4 hg4 hat hlt4
            go_roundw
            case rel => exact ⟨t + 1, _, rfl, by omega, by go_num, .inl hq1, HO6.out, b6⟩
            case measure => simp [intOf]; omega
          · have i4 : ¬ (q : Int) < (m.states.length : Int) - 1 := by omega
            obtain rfl : t = 0 := by omega
            have HA9 : Hid (OwnArcs wr wo.heap.size av (fwdArcs m.states.length q s.arcs)) := Lib.hid (by unfold OwnArcs fwdArcs; rw [if_neg hq1]; simpa using hO)
            have HFI2 := HFI.out
            obtain ⟨Av, cv, rfl, -, -⟩ := own_form hO
            clear hO
            go_wp2_with fail
            go_roundw
            case rel =>
              have hap := (HAP.out.set (N' := wr.heap.size) (av := .slice Av 0 cv) (fun b hb => HA9.out.lt b hb) bel.size).cell (a := ⟨g, q * 2 + 1, none⟩) (u := .slice Av 0 cv)
              have hz := HWr.out.set (l := fwdArcs m.states.length q s.arcs) (f := s.final) q (by rw [fwdPart_len]; exact hlt) (by have := HW.out.hM; omega) HA9.out (by simpa [fwdPart_len, hlt] using HFI2.symm)
              rw [HSET.out] at hz
              exact ⟨q + 1, _, by omega, by go_num, hz, hap⟩
            case measure => simp [intOf]; omega
        · obtain rfl : t = s.arcs.length := by omega
          have i3 : ¬ (s.arcs.length : Int) < (s.arcs.length : Int) := by omega
          have HA9 : Hid (OwnArcs wr wo.heap.size av (fwdArcs m.states.length q s.arcs)) := Lib.hid (by
            rw [List.take_of_length_le (by omega)] at hO
            unfold OwnArcs fwdArcs
            rcases hor with h | h
            · rw [if_pos h, List.length_map]; exact hO
            · have h0 : s.arcs = [] := List.eq_nil_of_length_eq_zero h
              rw [h0] at hO ⊢
              simpa using hO)
          have HFI2 := HFI.out
          obtain ⟨Av, cv, rfl, -, -⟩ := own_form hO
          clear hO
          go_wp2_with fail
          go_roundw
          case rel =>
            have hap := (HAP.out.set (N' := wr.heap.size) (av := .slice Av s.arcs.length cv) (fun b hb => HA9.out.lt b hb) bel.size).cell (a := ⟨g, q * 2 + 1, none⟩) (u := .slice Av s.arcs.length cv)
            have hz := HWr.out.set (l := fwdArcs m.states.length q s.arcs) (f := s.final) q (by rw [fwdPart_len]; exact hlt) (by have := HW.out.hM; omega) HA9.out (by simpa [fwdPart_len, hlt] using HFI2.symm)
            rw [HSET.out] at hz
            exact ⟨q + 1, _, by omega, by go_num, hz, hap⟩
          case measure => simp [intOf]; omega
    · obtain rfl : q = m.states.length := by omega
      have i1 : ¬ (m.states.length : Int) < (m.states.length : Int) := by omega
      clear hW
      go_wp2_with fail
      refine bodyPost_ret (v := .agg #[.int .i64 0, .slice (some ⟨g, 0, none⟩) m.states.length cap]) (by simp [results, Tryd.results29, go_sem, *]) rfl ⟨_, rfl, vs, ?_, HAP.out.all (by have h1 := HW.out.own.len; rw [fwdPart_len] at h1; omega), ?_⟩
      · rw [← HF.out]
        exact ((HW.out.own.setCell (a := ⟨w.heap.size + 1, 0, none⟩) (by simp) _).setCell (a := ⟨w.heap.size + 1, 1, none⟩) (by simp) _).mono (by omega)
      · exact (HW.out.bel.setCell (by simp) _).setCell (by simp) _
theorem forward_any (v : Value) (r : RawL) (k : Int) (w : World) (hr : RawArg w v r) (k1 : 1 ≤ k) (k2 : k ≤ 60) :
    Calls Tryd.prog 29 #[v, .int .i64 k] w fun e w' => ∃ mv, e = .returned mv ∧ OwnMach w' w.heap.size mv (fwdM (mkMach r k false)) ∧ Below w.heap.size w w' :=
  (forward_anyA v r k w hr k1 k2).mono fun _ _ ⟨sv, vs, he, h1, _, h2⟩ => ⟨_, he, ⟨sv, rfl, vs, h1⟩, h2⟩
end Go.Proofs.YtkmnacchiagipaaDoor
