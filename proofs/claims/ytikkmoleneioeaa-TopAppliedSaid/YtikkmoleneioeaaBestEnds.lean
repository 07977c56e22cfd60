/- best.ends. -/
import Derived.Test.YtikkmoleneioeaaBestPlain
import Derived.Test.YtikkmoleneioeaaTwinT
import Derived.Test.YtikkmoleneioeaaBuild
import Derived.Test.YtikkmoleneioeaaSlices
import Derived.StillTailTactics
import Derived.Deep.LoopGhost
import Derived.LoopTactic
import Derived.IntWalk
import Derived.Deep.DeepCutAuto
import Derived.Deep.RegionHeld3
namespace Go.Proofs.Ytikkmoleneioeaa
open Go.RowKit

def twC (p : Int × Int) : List Value := [.int .i64 p.1, .int .i64 p.2]
def twA (L : List (Int × Int)) : Array Value := (L.flatMap twC).toArray
theorem twC_len (L : List (Int × Int)) : (L.flatMap twC).length = L.length * 2 := by
  induction L with
  | nil => rfl
  | cons a l ih => simp only [List.flatMap_cons, List.length_append, List.length_cons] at *; rw [ih]; simp [twC]; omega
theorem twA_at (L : List (Int × Int)) (q : Nat) (hq : q < L.length) (j : Nat) (hj : j < 2) : (twA L)[q * 2 + j]? = (twC (tw L q))[j]? := by
  have e := flatMap_at twC 2 (fun _ => rfl) L q hq j hj
  have h2 : tw L q = L[q] := by simp [tw, List.getD_eq_getElem?_getD, hq]
  rw [h2, ← e]
  simp [twA]
theorem twA_0 (L : List (Int × Int)) (q : Nat) (hq : q < L.length) : (twA L)[q * 2]? = some (.int .i64 (tw L q).1) := twA_at L q hq 0 (by omega)
theorem twA_1 (L : List (Int × Int)) (q : Nat) (hq : q < L.length) : (twA L)[q * 2 + 1]? = some (.int .i64 (tw L q).2) := twA_at L q hq 1 (by omega)
theorem twC_set (L : List (Int × Int)) (q : Nat) (a b : Int) : ((L.flatMap twC).set (q * 2) (.int .i64 a)).set (q * 2 + 1) (.int .i64 b) = (L.set q (a, b)).flatMap twC := by
  induction L generalizing q with
  | nil => simp
  | cons p l ih =>
    cases q with
    | zero => simp [twC]
    | succ q =>
      have e : (q + 1) * 2 = (q * 2) + 1 + 1 := by omega
      have := ih q
      simp only [List.flatMap_cons, twC, List.cons_append, List.nil_append, List.set_cons_succ, e] at this ⊢
      rw [this]
theorem twA_set (L : List (Int × Int)) (q : Nat) (a b : Int) : ((twA L).setIfInBounds (q * 2) (.int .i64 a)).setIfInBounds (q * 2 + 1) (.int .i64 b) = twA (L.set q (a, b)) := by
  unfold twA
  rw [← twC_set]
  simp
theorem madeTwins (n : Nat) : madeCells #[Value.int .i64 0, .int .i64 0] (n * 2) = twA (List.replicate n (0, 0)) := by
  apply Array.ext
  · simp [madeCells, twA, twC]
  · intro i h1 h2
    have hi : i < n * 2 := by simpa [madeCells] using h1
    have e2 := twA_at (List.replicate n ((0 : Int), (0 : Int))) (i / 2) (by simp; omega) (i % 2) (Nat.mod_lt _ (by omega))
    rw [show i / 2 * 2 + i % 2 = i by omega] at e2
    have e0 : tw (List.replicate n ((0 : Int), (0 : Int))) (i / 2) = (0, 0) := by
      have : i / 2 < n := by omega
      simp [tw, List.getD_eq_getElem?_getD, this]
    rw [e0, Array.getElem?_eq_getElem h2] at e2
    rcases Nat.mod_two_eq_zero_or_one i with h | h
    · rw [h] at e2; simp [twC] at e2; rw [e2]; simp [madeCells, h]
    · rw [h] at e2; simp [twC] at e2; rw [e2]; simp [madeCells, h]
theorem eltTwin : Elt Try.prog 96 99 (.agg #[.int .i64 0, .int .i64 0]) 2 16 := ⟨Try.underlying96, by kernel_rfl, rfl, by omega⟩
/-- what stands at first -/
def firstW (s : StateL) : Int × Int := if s.final = 1000000001 then none2 else (s.final, 0)
def firstTw (ss : List StateL) (k : Nat) : List (Int × Int) := (ss.take k).map firstW ++ List.replicate (ss.length - k) (0, 0)
theorem firstTw_len (ss : List StateL) (k : Nat) (h : k ≤ ss.length) : (firstTw ss k).length = ss.length := by simp [firstTw]; omega
theorem firstTw_succ (ss : List StateL) (k : Nat) (h : k < ss.length) : (firstTw ss k).set k (firstW ss[k]) = firstTw ss (k + 1) := by
  unfold firstTw
  rw [List.set_append_right _ _ (by simp; omega)]
  have e : k - (List.map firstW (ss.take k)).length = 0 := by simp; omega
  obtain ⟨d, hd⟩ : ∃ d, ss.length - k = d + 1 := ⟨ss.length - k - 1, by omega⟩
  rw [e, hd, show ss.length - (k + 1) = d by omega, List.take_succ_eq_append_getElem h, List.map_append]
  simp [List.replicate_succ]
theorem firstTw_all (ss : List StateL) : firstTw ss ss.length = ss.map firstW := by simp [firstTw]
theorem einv_first {m : MachL} : EInv m (m.states.map firstW) := by
  have hg : ∀ q (h : q < m.states.length), tw (m.states.map firstW) q = firstW m.states[q] := fun q h => by simp [tw, List.getD_eq_getElem?_getD, h]
  refine ⟨by simp, fun q hq => ?_, fun q s hs hf => ?_⟩
  · rw [hg q hq]
    by_cases hf : m.states[q].final = 1000000001
    · left; unfold firstW; rw [if_pos hf]
    · right
      have e : firstW m.states[q] = (m.states[q].final, 0) := by unfold firstW; rw [if_neg hf]
      rw [e]
      exact ⟨[], by simp, Walk.fin (List.getElem?_eq_getElem hq) hf (by rw [hg q hq, e]; exact lle_refl _)⟩
  · obtain ⟨hq, rfl⟩ := List.getElem?_eq_some_iff.1 hs
    rw [hg q hq]
    unfold firstW
    rw [if_neg hf]
    exact lle_refl _

/-- ends' memory -/
structure TWS (w : World) (bt : Nat) (A : Option Addr) (n c : Nat) (st : Int) (W : World) (L : List (Int × Int)) : Prop where
  tb : Blk W bt (twA L) 99
  mb : Blk W w.heap.size #[.int .i64 st, .slice A n c] 28
  nb : Blk W (w.heap.size + 1) #[.int .i64 1000000001, .int .i64 1000000001] 99
  bel : Below w.heap.size w W
  hb : w.heap.size + 1 < bt
section
variable {w W W' : World} {bt n c : Nat} {A : Option Addr} {st : Int} {L : List (Int × Int)}
theorem TWS.keep (h : TWS w bt A n c st W L) (hb : Below W.heap.size W W') : TWS w bt A n c st W' L :=
  ⟨h.tb.step hb, h.mb.step hb, h.nb.step hb, h.bel.trans (hb.mono h.bel.size), h.hb⟩
theorem TWS.set (h : TWS w bt A n c st W L) (q : Nat) (a b : Int) : TWS w bt A n c st ((W.setCell ⟨bt, q * 2, none⟩ (.int .i64 a)).setCell ⟨bt, q * 2 + 1, none⟩ (.int .i64 b)) (L.set q (a, b)) := by
  have hb := h.hb
  refine ⟨?_, (h.mb.far (by simp; omega) _).far (by simp; omega) _, (h.nb.far (by simp; omega) _).far (by simp; omega) _, (h.bel.setCell (by simp; omega) _).setCell (by simp; omega) _, hb⟩
  rw [← twA_set]
  exact (h.tb.put _ _).put _ _
end
/-- what ends answers -/
def BendsR (w w' : World) (m : MachL) (v : Value) : Prop := ∃ bt L, v = .slice (some ⟨bt, 0, none⟩) m.states.length m.states.length ∧ Blk w' bt (twA L) 99 ∧ w.heap.size ≤ bt ∧ EInv m L ∧ BClosed m L

set_option maxRecDepth 100000 in
set_option maxHeartbeats 8000000 in
theorem bends_any (v : Value) (m : MachL) (w : World) (hm : MachAt w v m) (hv : Valid m) (hs : BSmall m) :
    Calls Try.prog 39 #[v] w fun e w' => ∃ lv, e = .returned lv ∧ BendsR w w' m lv ∧ Below w.heap.size w w' := by
  obtain ⟨A, c, rfl, hS⟩ := hm
  have hsz := hv.size
  have HS := Lib.hid hS; have HV := Lib.hid hv; have HSM := Lib.hid hs
  have rd := hS.rdy
  have HAL := Lib.hid (fun (s : StateL) (hs : s ∈ m.states) => (show s.arcs.length ≤ 400 by have h3 := hv.arcs; have := arcs_le_of m.states s hs; omega))
  clear hS hv hs
  generalize hst : m.start = st at *
  clear hst
  have hmk := run_make_elt eltTwin ((w.alloc (.cells #[.int .i64 st, .slice A m.states.length c] 28)).alloc (.cells #[.int .i64 1000000001, .int .i64 1000000001] 99)) m.states.length (by omega) (by omega) (by omega)
  simp only [Value.cells, madeTwins] at hmk
  go_enter Try.func39, Try.ntmps39
  go_wp2_with fail
  have T0 : TWS w (w.heap.size + 2) A m.states.length c st (((w.alloc (.cells #[.int .i64 st, .slice A m.states.length c] 28)).alloc (.cells #[.int .i64 1000000001, .int .i64 1000000001] 99)).alloc (.cells (twA (List.replicate m.states.length (0, 0))) 99)) (firstTw m.states 0) := by
    have e : firstTw m.states 0 = List.replicate m.states.length (0, 0) := by simp [firstTw]
    rw [e]
    exact ⟨Blk.new' (by simp), ((Blk.new _ _ _).alloc _).alloc _, (Blk.new' (by simp)).alloc _, (by repeat' (first | exact Below.refl _ _ | assumption | refine Below.drew ?_ | refine Below.alloc ?_ (by first | omega | (simp; done) | (simp; omega)) _ | refine Below.setCell ?_ (by first | omega | (simp; done) | (simp; omega)) _)), by omega⟩
  have HT0 := Lib.hid T0
  clear hmk T0
  generalize (((w.alloc (.cells #[.int .i64 st, .slice A m.states.length c] 28)).alloc (.cells #[.int .i64 1000000001, .int .i64 1000000001] 99)).alloc (.cells (twA (List.replicate m.states.length (0, 0))) 99)) = w1 at *
  generalize hbt : w.heap.size + 2 = bt at *
  clear hbt
  go_loopw [22] (fun kv wr => ∃ k : Nat, k ≤ m.states.length ∧ kv = .int .i64 k ∧ TWS w bt A m.states.length c st wr (firstTw m.states k)) (fun kv _ => m.states.length - (intOf kv).toNat)
  case atStart => exact ⟨0, by omega, rfl, HT0.out⟩
  case round =>
    obtain ⟨k, hk, rfl, hT⟩ := hrel
    have HT := Lib.hid hT
    have i0 : (0 : Int) ≤ ↑k := by omega
    by_cases hlt : k < m.states.length
    · have i1 : (↑k : Int) < ↑m.states.length := by omega
      have hSr := HS.out.below hT.bel (Nat.le_refl _)
      have d0 := hSr.c0 k hlt
      obtain ⟨A', c', d1, -⟩ := hSr.c1 k hlt
      have hsn := firstTw_succ m.states k hlt
      have hfl := firstTw_len m.states k hk
      have k0 := (hT.tb.cell (k * 2)).trans (twA_0 _ k (by omega))
      have k1 := (hT.tb.cell (k * 2 + 1)).trans (twA_1 _ k (by omega))
      have kn := hT.nb.cell; have ln := hT.nb.lt
      have fb := hT.tb.froz; have lb := hT.tb.lt
      have HSN := Lib.hid hsn
      generalize m.states[k] = s at *
      have lA := World.block_lt_of_cell? _ _ d0
      clear hSr hsn hT
      by_cases hf : s.final = 1000000001
      · have e1 : (s.final == 1000000001) = true := by simpa using hf
        have HFW : Hid (firstW s = none2) := Lib.hid (by unfold firstW; rw [if_pos hf])
        clear hf
        go_wp2_with fail
        go_roundw
        case rel =>
          have h := (HT.out.set k 1000000001 1000000001).keep ((Below.refl _ _).alloc (Nat.le_refl _) (.cells #[.int .i64 s.final, .slice A' s.arcs.length c'] 59))
          rw [show ((1000000001 : Int), (1000000001 : Int)) = firstW s from HFW.out.symm, HSN.out] at h
          exact ⟨k + 1, by omega, by go_num, h⟩
        case measure => simp [intOf]; omega
      · have e1 : (s.final == 1000000001) = false := by simpa using hf
        have HFW : Hid (firstW s = (s.final, 0)) := Lib.hid (by unfold firstW; rw [if_neg hf])
        clear hf
        go_wp2_with fail
        go_roundw
        case rel =>
          have h := ((HT.out.set k 1000000001 1000000001).set k s.final 0).keep ((Below.refl _ _).alloc (Nat.le_refl _) (.cells #[.int .i64 s.final, .slice A' s.arcs.length c'] 59))
          rw [List.set_set, ← HFW.out, HSN.out] at h
          exact ⟨k + 1, by omega, by go_num, h⟩
        case measure => simp [intOf]; omega
    · obtain rfl : k = m.states.length := by omega
      have i1 : ¬ (↑m.states.length : Int) < ↑m.states.length := by omega
      rw [firstTw_all] at hT
      have HTA := Lib.hid hT
      have HE0 : Hid (EInv m (m.states.map firstW)) := Lib.hid einv_first
      clear hT HT
      go_wp2_with fail
      go_loopg [7] (2 * rankL (m.states.map firstW) + 1) (fun g bv wr => ∃ (L : List (Int × Int)) (b : Bool), 2 * rankL L + (if b = true then 1 else 0) = g ∧ bv = .bool b ∧ TWS w bt A m.states.length c st wr L ∧ EInv m L ∧ (b = false → BClosed m L))
      case atStart => exact ⟨_, true, rfl, rfl, HTA.out, HE0.out, fun h => by cases h⟩
      case round =>
        obtain ⟨L, b, hg, rfl, hT, hE, hC⟩ := hrel
        have HT := Lib.hid hT; have HE := Lib.hid hE; have HC := Lib.hid hC
        have km := hT.mb.cell; have lm := hT.mb.lt
        have HG := Lib.hid hg
        clear hT hE hC hg
        cases b with
        | false =>
          go_wp2_with fail
          go_ret
          exact ⟨_, rfl, ⟨bt, L, rfl, HT.out.tb, by have := HT.out.hb; omega, HE.out, HC.out trivial⟩, HT.out.bel⟩
        | true =>
          go_wp2_with fail
          obtain ⟨wo, rfl⟩ : ∃ wx : World, wx = wr := ⟨_, rfl⟩
          go_loopw [45, 7] (fun kv bv wr => ∃ (q : Nat) (b : Bool) (L' : List (Int × Int)), q ≤ m.states.length ∧ kv = .int .i64 q ∧ bv = .bool b ∧ TWS w bt A m.states.length c st wr L' ∧ EInv m L' ∧ rankL L' ≤ rankL L ∧ (b = true → rankL L' < rankL L) ∧ (b = false → ∀ q' s, q' < q → m.states[q']? = some s → ∀ a ∈ s.arcs, ClosedAt L' q' a)) (fun kv _ _ => m.states.length - (intOf kv).toNat)
          case atStart => exact ⟨0, false, L, by omega, rfl, rfl, HT.out, HE.out, Nat.le_refl _, fun h => (by cases h), fun _ q' s hq' => by omega⟩
          case round =>
            obtain ⟨q, b, L', hq, rfl, rfl, hT, hE, hr1, hr2, hC⟩ := hrel
            have HT2 := Lib.hid hT; have HE2 := Lib.hid hE; have HC2 := Lib.hid hC; have HR2 := Lib.hid hr2
            have i0 : (0 : Int) ≤ ↑q := by omega
            by_cases hlt : q < m.states.length
            · have i1 : (↑q : Int) < ↑m.states.length := by omega
              have hSr := HS.out.below hT.bel (Nat.le_refl _)
              have d0 := hSr.c0 q hlt
              obtain ⟨A', c', d1', hA'⟩ := HS.out.c1 q hlt
              have d1 := cell_keep hT.bel (Nat.le_refl _) d1'
              have hsq : m.states[q]? = some m.states[q] := List.getElem?_eq_getElem hlt
              have hal := HAL.out _ (List.getElem_mem hlt)
              have hva := (HV.out.st _ (List.getElem_mem hlt)).2
              have hwt := (HSM.out _ (List.getElem_mem hlt)).2
              have HA := Lib.hid hA'; have HSQ := Lib.hid hsq; have HVA := Lib.hid hva; have HWT := Lib.hid hwt
              have rdA := hA'.rdy
              generalize m.states[q] = s at *
              have lA := World.block_lt_of_cell? _ _ d0
              clear hSr hT hE hC hr2 hA' d1' hsq hva hwt
              go_wp2_with fail
              have b5 : Below wr.heap.size wr (wr.alloc (.cells #[.int .i64 s.final, .slice A' s.arcs.length c'] 59)) := (Below.refl _ _).alloc (Nat.le_refl _) _
              have HT5 := Lib.hid (HT2.out.keep b5)
              clear d0 d1 lA
              generalize wr.alloc (.cells #[.int .i64 s.final, .slice A' s.arcs.length c'] 59) = w5 at *
              go_loopw [53, 7] (fun tv bv wx => ∃ (t : Nat) (b : Bool) (L' : List (Int × Int)), t ≤ s.arcs.length ∧ tv = .int .i64 t ∧ bv = .bool b ∧ TWS w bt A m.states.length c st wx L' ∧ EInv m L' ∧ rankL L' ≤ rankL L ∧ (b = true → rankL L' < rankL L) ∧ (b = false → (∀ q' s, q' < q → m.states[q']? = some s → ∀ a ∈ s.arcs, ClosedAt L' q' a) ∧ ∀ a ∈ s.arcs.take t, ClosedAt L' q a)) (fun tv _ _ => s.arcs.length - (intOf tv).toNat)
              case atStart => exact ⟨0, b, L', by omega, rfl, rfl, HT5.out, HE2.out, hr1, HR2.out, fun h => ⟨HC2.out h, fun a ha => by simp at ha⟩⟩
              case round =>
                obtain ⟨t, b, M, ht, rfl, rfl, hT, hE, hr1, hr2, hC⟩ := hrel
                obtain ⟨wi, rfl⟩ : ∃ wx : World, wx = wr := ⟨_, rfl⟩
                have HT6 := Lib.hid hT; have HE6 := Lib.hid hE; have HC6 := Lib.hid hC; have HR6 := Lib.hid hr2
                have j0 : (0 : Int) ≤ ↑t := by omega
                by_cases hlt2 : t < s.arcs.length
                · have j1 : (↑t : Int) < ↑s.arcs.length := by omega
                  have hAr := HA.out.below hT.bel (Nat.le_refl _)
                  have f0 := hAr.c0 t hlt2; have f1 := hAr.c1 t hlt2; have f2 := hAr.c2 t hlt2; have f3 := hAr.c3 t hlt2
                  have hmem := List.getElem_mem hlt2
                  have hva := HVA.out _ hmem; have hwt := HWT.out _ hmem
                  have htk : s.arcs.take (t + 1) = s.arcs.take t ++ [s.arcs[t]] := List.take_succ_eq_append_getElem hlt2
                  have HMEM := Lib.hid hmem; have HTK := Lib.hid htk
                  generalize s.arcs[t] = a at *
                  have lA' := World.block_lt_of_cell? _ _ f0
                  obtain ⟨tn, htn⟩ : ∃ tn : Nat, a.to = tn := ⟨a.to.toNat, by have := hva.t0; omega⟩
                  have htn2 : a.to.toNat = tn := by omega
                  have htl : tn < m.states.length := by have := hva.t1; omega
                  have g1 := hva.w0
                  have hp := hE.b HV.out HSM.out htl
                  have hpq := hE.b HV.out HSM.out hlt
                  have hln := hE.len
                  have HTN := Lib.hid htn2
                  rw [htn] at f3
                  have hfit : TwFits a.wt 1 (tw M tn).1 (tw M tn).2 := by
                    rcases hp with e | ⟨e1, e2, e3, e4, e5⟩
                    · rw [e]; exact ⟨.inr ⟨g1, hva.w1, by omega, by omega⟩, .inl ⟨rfl, rfl⟩, .inr (.inl ⟨rfl, rfl⟩)⟩
                    · exact ⟨.inr ⟨g1, hva.w1, by omega, by omega⟩, .inr ⟨e1, by omega, e3, by omega⟩, .inr (.inr ⟨by omega, by omega⟩)⟩
                  have hX : (tw M tn = none2 ∧ tA a.wt 1 (tw M tn).1 (tw M tn).2 = 1000000001 ∧ tB a.wt 1 (tw M tn).1 (tw M tn).2 = 1000000001) ∨ (tw M tn ≠ none2 ∧ tA a.wt 1 (tw M tn).1 (tw M tn).2 = a.wt + (tw M tn).1 ∧ tB a.wt 1 (tw M tn).1 (tw M tn).2 = 1 + (tw M tn).2) := by
                    rcases hp with e | ⟨e1, e2, e3, e4, e5⟩
                    · left
                      unfold tA tB
                      rw [if_pos (.inr (by rw [e]; exact ⟨rfl, rfl⟩)), if_pos (.inr (by rw [e]; exact ⟨rfl, rfl⟩))]
                      exact ⟨e, rfl, rfl⟩
                    · right
                      unfold tA tB
                      rw [if_neg (by omega), if_neg (by omega)]
                      exact ⟨fun e => by rw [e] at e2; simp at e2, rfl, rfl⟩
                  have htt := fun W => twTimes_ok a.wt 1 (tw M tn).1 (tw M tn).2 W hfit
                  generalize tA a.wt 1 (tw M tn).1 (tw M tn).2 = X at *
                  generalize tB a.wt 1 (tw M tn).1 (tw M tn).2 = Y at *
                  have hqb : 0 ≤ (tw M q).1 ∧ (tw M q).1 ≤ 1000000001 ∧ 0 ≤ (tw M q).2 ∧ (tw M q).2 ≤ 1000000001 := by
                    rcases hpq with e | ⟨e1, e2, e3, e4, e5⟩
                    · rw [e]; simp
                    · omega
                  have hup : lessB X Y (tw M q).1 (tw M q).2 = true → EInv m (M.set q (X, Y)) ∧ rankL (M.set q (X, Y)) < rankL M := fun hl => by
                    have hl2 : llt (X, Y) (tw M q) := by unfold lessB at hl; simpa [llt] using hl
                    rcases hX with ⟨e1, e2, e3⟩ | ⟨e1, e2, e3⟩
                    · unfold llt at hl2; simp only at hl2; omega
                    · have h9 := hE.set HV.out HSQ.out hmem (by rw [HTN.out]; exact e1) (by rw [HTN.out, ← e2, ← e3]; exact hl2)
                      rw [HTN.out, ← e2, ← e3] at h9
                      have hpb := hp.resolve_left e1
                      exact ⟨h9, rank_set M q (by omega) (X, Y) (rank_lt hl2 (by simp only; omega) (by simp only; omega) (by simp only; omega) hqb.1 hqb.2.2.1)⟩
                  have hcl : lessB X Y (tw M q).1 (tw M q).2 = false → ClosedAt M q a := fun hl hne => by
                    rw [HTN.out] at hne ⊢
                    have hl2 : ¬ llt (X, Y) (tw M q) := by unfold lessB at hl; simpa [llt] using hl
                    rcases hX with ⟨e1, e2, e3⟩ | ⟨e1, e2, e3⟩
                    · exact absurd e1 hne
                    · rw [← e2, ← e3]; exact lle_of_not hl2
                  have HTT := Lib.hid htt
                  have HUP := Lib.hid hup; have HCL := Lib.hid hcl
                  have kt0 := (hT.tb.cell (tn * 2)).trans (twA_0 _ tn (by omega)); have kt1 := (hT.tb.cell (tn * 2 + 1)).trans (twA_1 _ tn (by omega))
                  have kq0 := (hT.tb.cell (q * 2)).trans (twA_0 _ q (by omega)); have kq1 := (hT.tb.cell (q * 2 + 1)).trans (twA_1 _ q (by omega))
                  have hHX : Hid (TwFits a.wt 1 (tw M tn).1 (tw M tn).2) := Lib.hid hfit
                  have i4 : (0 : Int) ≤ ↑tn := by omega
                  have i5 : (↑tn : Int) < ↑m.states.length := by omega
                  clear htt hfit hX hup hcl hp hpq hqb hAr hva hwt hmem htk htn htn2
                  go_upto_region 19 with fail
                  have X6 : Blk (wi.alloc (.cells #[.int .i64 a.inn, .int .i64 a.out, .int .i64 a.wt, .int .i64 tn] 65)) wi.heap.size #[.int .i64 a.inn, .int .i64 a.out, .int .i64 a.wt, .int .i64 tn] 65 := Blk.new _ _ _
                  have b6 : Below wi.heap.size wi (wi.alloc (.cells #[.int .i64 a.inn, .int .i64 a.out, .int .i64 a.wt, .int .i64 tn] 65)) := (Below.refl _ _).alloc (Nat.le_refl _) _
                  have HT7 := Lib.hid (HT6.out.keep b6)
                  have m0 := cell_keep b6 (Nat.le_refl _) kt0; have m1 := cell_keep b6 (Nat.le_refl _) kt1
                  clear kt0 kt1 f0 f1 f2 f3 lA'
                  generalize wi.alloc (.cells #[.int .i64 a.inn, .int .i64 a.out, .int .i64 a.wt, .int .i64 tn] 65) = w6 at *
                  have k6 := X6.cell; have l6 := X6.lt
                  have lb6 := HT7.out.tb.lt
                  generalize (tw M tn).1 = pA at *
                  generalize (tw M tn).2 = pB at *
                  have q2 : w6.cell? ⟨wi.heap.size, 2, none⟩ = some (.int .i64 a.wt) := X6.cell 2
                  have q3 : w6.cell? ⟨wi.heap.size, 3, none⟩ = some (.int .i64 tn) := X6.cell 3
                  generalize wi.heap.size = ab at *
                  have KS : ∀ W, Below w6.heap.size w6 W → W.cell? ⟨ab, 2, none⟩ = some (.int .i64 a.wt) ∧ W.cell? ⟨ab, 3, none⟩ = some (.int .i64 tn) ∧ W.cell? ⟨bt, tn * 2, none⟩ = some (.int .i64 pA) ∧ W.cell? ⟨bt, tn * 2 + 1, none⟩ = some (.int .i64 pB) ∧ Below w6.heap.size w6 W := fun W q => ⟨cellB q q2, cellB q q3, cellB q m0, cellB q m1, q⟩
                  go_cut [12, 13] (fun tv ev wx => ∃ tb9, tv = .pointer (some ⟨tb9, 0, none⟩) ∧ ev = .int .i64 0 ∧ Blk wx tb9 #[.int .i64 X, .int .i64 Y] 99 ∧ Below w6.heap.size w6 wx ∧ w6.heap.size ≤ tb9)
                  case first =>
                    go_region_held3 (fun w' => w'.cell? ⟨ab, 2, none⟩ = some (.int .i64 a.wt) ∧ w'.cell? ⟨ab, 3, none⟩ = some (.int .i64 tn) ∧ w'.cell? ⟨bt, tn * 2, none⟩ = some (.int .i64 pA) ∧ w'.cell? ⟨bt, tn * 2 + 1, none⟩ = some (.int .i64 pB) ∧ Below w6.heap.size w6 w') (first | (exact KS _ (Below.refl _ _).drew) | (refine KS _ ?_; (try go_split_ands); first | exact Below.step (a := w6) (by assumption) bn | (repeat' (first | assumption | exact Below.step (a := w6) (by assumption) bn | refine Below.alloc ?_ (Below.size (show Below w6.heap.size w6 _ by first | assumption | exact Below.step (a := w6) (by assumption) bn)) _ | refine Below.setCell ?_ (by first | exact Nat.le_refl _ | exact Below.size (show Below w6.heap.size w6 _ by first | assumption | exact Below.step (a := w6) (by assumption) bn)) _ | refine Below.drew ?_)))) (first | (go_at_call 40; go_split_ands; refine (HTT.out _).mono ?_; rintro e wn ⟨rfl, bn⟩; obtain ⟨c1, f1⟩ := bcell bn; have zs := bn.size; (try simp at zs); (try have y0 : w6.heap.size < wn.heap.size := by omega)))
                    all_goals
                      go_wp2_with fail
                      go_meet
                      case rel =>
                        first
                        | exact ⟨_, rfl, rfl, Blk.new _ _ _, by go_split_ands; assumption, by omega⟩
                        | exact ⟨w6.heap.size, rfl, rfl, ((Blk.step (Blk.drew (Blk.new' rfl)) bn).put 0 _).put 1 _, by go_split_ands; assumption, Nat.le_refl _⟩
                  case rest =>
                    obtain ⟨tb9, rfl, rfl, X9, b9, htb9⟩ := hcut
                    obtain ⟨w9, rfl⟩ : ∃ wx : World, wx = wc := ⟨_, rfl⟩
                    have HT9 := Lib.hid (HT7.out.keep b9)
                    have n0 := (HT9.out.tb.cell (q * 2)).trans (twA_0 _ q (by omega)); have n1 := (HT9.out.tb.cell (q * 2 + 1)).trans (twA_1 _ q (by omega))
                    have k9 := X9.cell; have l9 := X9.lt; have lb9 := HT9.out.tb.lt
                    clear b9 kq0 kq1 HT7 HTT hHX X6 k6 l6 m0 m1 q2 q3 KS
                    go_upto_region 20 with fail
                    go_still_tail 8, (by kernel_rfl)
                    change wpList _ _ _ _ _ w9.drew
                    generalize hqA : (tw M q).1 = qA at *
                    generalize hqB : (tw M q).2 = qB at *
                    go_wp2_with fail
                    refine (Less_any X Y qA qB _).mono ?_; rintro e w10 ⟨rfl, b10⟩
                    have b910 : Below w9.heap.size w9 w10 := (Below.refl _ _).drew.trans (b10.mono (Nat.le_refl _))
                    have HT10 := Lib.hid (HT9.out.keep b910)
                    have X10 := X9.step b910
                    have k10 := X10.cell; have l10 := X10.lt
                    have r0 := (HT10.out.tb.cell (q * 2)).trans (twA_0 _ q (by omega)); have r1 := (HT10.out.tb.cell (q * 2 + 1)).trans (twA_1 _ q (by omega))
                    have fr10 := HT10.out.tb.froz; have lr10 := HT10.out.tb.lt
                    clear b10 b910 X9 k9 l9 n0 n1 lb9 HT9 X10
                    generalize lessB X Y qA qB = lb at *
                    cases lb with
                    | true =>
                      have hupp := HUP.out rfl
                      have HE11 := Lib.hid hupp.1
                      have hr11 : rankL (M.set q (X, Y)) < rankL L := Nat.lt_of_lt_of_le hupp.2 hr1
                      have HR11 := Lib.hid hr11
                      clear hupp hr11
                      go_wp2_with fail
                      go_roundw
                      case rel => exact ⟨t + 1, true, M.set q (X, Y), by omega, by go_num, rfl, HT10.out.set q X Y, HE11.out, Nat.le_of_lt HR11.out, fun _ => HR11.out, fun h => by cases h⟩
                      case measure => simp [intOf]; omega
                    | false =>
                      have HCA := Lib.hid (HCL.out rfl)
                      go_wp2_with fail
                      go_roundw
                      case rel =>
                        refine ⟨t + 1, b, M, by omega, by go_num, rfl, HT10.out, HE6.out, hr1, HR6.out, fun h => ⟨(HC6.out h).1, fun a' ha' => ?_⟩⟩
                        rw [HTK.out] at ha'
                        rcases List.mem_append.1 ha' with h9 | h9
                        · exact (HC6.out h).2 a' h9
                        · simp at h9; subst h9; exact HCA.out
                      case measure => simp [intOf]; omega
                · obtain rfl : t = s.arcs.length := by omega
                  have j1 : ¬ (↑s.arcs.length : Int) < ↑s.arcs.length := by omega
                  clear hT hE hC hr2
                  go_wp2_with fail
                  go_roundw
                  case rel =>
                    refine ⟨q + 1, b, M, by omega, by go_num, rfl, HT6.out, HE6.out, hr1, HR6.out, fun h q' s' hq' hs' a ha => ?_⟩
                    rcases Nat.lt_or_ge q' q with h9 | h9
                    · exact (HC6.out h).1 q' s' h9 hs' a ha
                    · obtain rfl : q' = q := by omega
                      rw [HSQ.out] at hs'
                      cases hs'
                      exact (HC6.out h).2 a (by rw [List.take_of_length_le (Nat.le_refl _)]; exact ha)
                  case measure => simp [intOf]; omega
            · obtain rfl : q = m.states.length := by omega
              have i1 : ¬ (↑m.states.length : Int) < ↑m.states.length := by omega
              clear hT hE hC hr2
              have HR1 := Lib.hid hr1
              cases b with
              | true =>
                go_wp2_with fail
                go_roundg (2 * rankL L' + 1)
                case measure =>
                  have h1 := HG.out; have h2 := HR2.out; have h3 := HR1.out
                  simp at h1 h2
                  omega
                case rel => exact ⟨L', true, by simp, rfl, HT2.out, HE2.out, fun h => by cases h⟩
              | false =>
                go_wp2_with fail
                go_roundg (2 * rankL L')
                case measure =>
                  have h1 := HG.out; have h3 := HR1.out
                  simp at h1
                  omega
                case rel =>
                  have h9 := HC2.out
                  simp only [forall_const] at h9
                  refine ⟨L', false, by simp, rfl, HT2.out, HE2.out, fun _ q' s' hs' a ha => ?_⟩
                  exact h9 q' s' (List.getElem?_eq_some_iff.1 hs').1 hs' a ha
end Go.Proofs.Ytikkmoleneioeaa
