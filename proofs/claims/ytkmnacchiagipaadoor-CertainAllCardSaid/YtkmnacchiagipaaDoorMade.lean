/- made: a machine out of raw numbers. -/
import Derived.Test.YtkmnacchiagipaaDoorRaw
import Derived.LoopTactic
import Derived.Deep.LoopGhost
import Derived.Deep.DeepCutAuto
import Derived.Deep.CutBlock
import Derived.Deep.RegionHeld3
namespace Go.Proofs.YtkmnacchiagipaaDoor
open Go.RowKit

/-! ### what it makes -/
def mkN (r : RawL) (k : Int) : Int := min (max (r.nodes.length : Int) 1) k
def mkArc (full : Bool) (n : Int) (e : ArcL) : ArcL :=
  ⟨if full = true ∧ pick e.inn 3 = 0 ∧ pick e.out 3 = 0 then 1 else pick e.inn 3, pick e.out 3, pick e.wt 10, pick e.to n⟩
def mkArcs (full : Bool) (n : Int) (x : NodeL) : List ArcL := (x.arcs.take 4).map (mkArc full n)
def mkFinal (x : NodeL) : Int := if x.ends = true then pick x.final 10 else 1000000001
def mkState (full : Bool) (n : Int) (x : Option NodeL) : StateL :=
  match x with
  | none => ⟨0, []⟩
  | some x => ⟨mkFinal x, mkArcs full n x⟩
def mkStates (r : RawL) (full : Bool) (n : Int) (q : Nat) : List StateL := (List.range q).map fun i => mkState full n r.nodes[i]?
def mkMach (r : RawL) (k : Int) (full : Bool) : MachL := ⟨pick r.start (mkN r k), mkStates r full (mkN r k) (mkN r k).toNat⟩

theorem mkStates_len (r : RawL) (full : Bool) (n : Int) (q : Nat) : (mkStates r full n q).length = q := by simp [mkStates]
theorem mkStates_snoc (r : RawL) (full : Bool) (n : Int) (q : Nat) : mkStates r full n (q + 1) = mkStates r full n q ++ [mkState full n r.nodes[q]?] := by
  simp [mkStates, List.range_succ]
theorem take_snoc {α : Type} (l : List α) (k : Nat) (h : k < l.length) : l.take (k + 1) = l.take k ++ [l[k]] := List.take_succ_eq_append_getElem h

/-- what made's outer loop keeps (g: the first block of its own) -/
structure MadeRel (w wr : World) (A : Option Addr) (n c : Nat) (st : Int) (sv : Value) (vs : List Value) (ss : List StateL) : Prop where
  own : OwnStV wr (w.heap.size + 3) sv vs ss
  raw : wr.cell? ⟨w.heap.size, 1, none⟩ = some (.slice A n c)
  m0 : wr.cell? ⟨w.heap.size + 1 + 1, 0, none⟩ = some (.int .i64 st)
  m1 : wr.cell? ⟨w.heap.size + 1 + 1, 1, none⟩ = some sv
  f0 : wr.frozen? ⟨w.heap.size + 1 + 1, 0, none⟩ = false
  f1 : wr.frozen? ⟨w.heap.size + 1 + 1, 1, none⟩ = false
  r0 : wr.cell? ⟨w.heap.size + 1, 0, none⟩ = some (.int .i64 0)
  r1 : wr.cell? ⟨w.heap.size + 1, 1, none⟩ = some (.slice none 0 0)
  f2 : wr.frozen? ⟨w.heap.size + 1, 0, none⟩ = false
  f3 : wr.frozen? ⟨w.heap.size + 1, 1, none⟩ = false
  bel : Below w.heap.size w wr
  size : w.heap.size + 3 ≤ wr.heap.size

theorem cellx {w w' : World} (hb : Below w.heap.size w w') {b o : Nat} {v : Value} (h : w.cell? ⟨b, o, none⟩ = some v) : w'.cell? ⟨b, o, none⟩ = some v := cell_keep hb (Nat.le_refl _) h
theorem frozx {w w' : World} (hb : Below w.heap.size w w') {b o : Nat} {v : Value} (h : w.cell? ⟨b, o, none⟩ = some v) (hf : w.frozen? ⟨b, o, none⟩ = false) : w'.frozen? ⟨b, o, none⟩ = false := by
  rw [hb.frozen (p := ⟨b, o, none⟩) (World.block_lt_of_cell? _ _ h)]; exact hf

theorem MadeRel.keep {w wr wx : World} {A : Option Addr} {n c : Nat} {st : Int} {sv : Value} {vs : List Value} {ss : List StateL} (h : MadeRel w wr A n c st sv vs ss) (hb : Below wr.heap.size wr wx) : MadeRel w wx A n c st sv vs ss :=
  ⟨h.own.below hb (Nat.le_refl _), cellx hb h.raw, cellx hb h.m0, cellx hb h.m1, frozx hb h.m0 h.f0, frozx hb h.m1 h.f1, cellx hb h.r0, cellx hb h.r1, frozx hb h.r0 h.f2, frozx hb h.r1 h.f3, h.bel.trans (hb.mono h.bel.size), Nat.le_trans h.size hb.size⟩

/-- behind the append of a state and the store into the machine's box -/
theorem MadeRel.app {w wr w' : World} {A : Option Addr} {n c : Nat} {st : Int} {sv : Value} {vs : List Value} {ss : List StateL} (h : MadeRel w wr A n c st sv vs ss) (s : StateL) {av : Value} (ha : OwnArcs wr (w.heap.size + 3) av s.arcs)
    {g cap k : Nat} (hk : k = ss.length) (hg : wr.grownBy w' sv.ownBlock) (hx : w'.ownsRow (w.heap.size + 3) 76 2 (.slice (some ⟨g, 0, none⟩) (k + 1) cap) (k + 1) (statesCells ((ss.map (·.final)).zip vs) ++ [.int .i64 s.final, av])) :
    MadeRel w (w'.setCell ⟨w.heap.size + 1 + 1, 1, none⟩ (.slice (some ⟨g, 0, none⟩) (k + 1) cap)) A n c st (.slice (some ⟨g, 0, none⟩) (k + 1) cap) (vs ++ [av]) (ss ++ [s]) := by
  have ho : OwnStV w' (w.heap.size + 3) (.slice (some ⟨g, 0, none⟩) (k + 1) cap) (vs ++ [av]) (ss ++ [s]) := h.own.app s ha hg (by omega) hx
  have hne : ∀ j, j < w.heap.size + 3 → some j ≠ sv.ownBlock := fun j hj e => own_base h.own.row hj e.symm
  have hsz := h.size
  have hblk : ∀ j, j < w.heap.size + 3 → w'.heap[j]? = wr.heap[j]? := fun j hj => hg.block j (by omega) (hne j hj)
  have hc : ∀ j o, j < w.heap.size + 3 → w'.cell? ⟨j, o, none⟩ = wr.cell? ⟨j, o, none⟩ := fun j o hj => World.cell?_of_block (hblk j hj)
  have hf : ∀ j o, j < w.heap.size + 3 → w'.frozen? ⟨j, o, none⟩ = wr.frozen? ⟨j, o, none⟩ := fun j o hj => World.frozen?_of_block (hblk j hj)
  have so : ∀ j o, (j ≠ w.heap.size + 1 + 1 ∨ o ≠ 1) → ∀ u, (w'.setCell ⟨w.heap.size + 1 + 1, 1, none⟩ u).cell? ⟨j, o, none⟩ = w'.cell? ⟨j, o, none⟩ := by
    intro j o hj u
    exact World.cell?_setCell_other _ _ _ _ (by intro e; injection e with e1 e2; omega)
  refine ⟨ho.setCell (by simp) _, ?_, ?_, ?_, ?_, ?_, ?_, ?_, ?_, ?_, ?_, ?_⟩
  · rw [so _ _ (by omega), hc _ _ (by omega)]; exact h.raw
  · rw [so _ _ (by omega), hc _ _ (by omega)]; exact h.m0
  · exact World.cell?_setCell_same _ _ _ (u := sv) (by rw [hc _ _ (by omega)]; exact h.m1)
  · rw [World.frozen?_setCell, hf _ _ (by omega)]; exact h.f0
  · rw [World.frozen?_setCell, hf _ _ (by omega)]; exact h.f1
  · rw [so _ _ (by omega), hc _ _ (by omega)]; exact h.r0
  · rw [so _ _ (by omega), hc _ _ (by omega)]; exact h.r1
  · rw [World.frozen?_setCell, hf _ _ (by omega)]; exact h.f2
  · rw [World.frozen?_setCell, hf _ _ (by omega)]; exact h.f3
  · exact (h.bel.grown hg (by omega) (fun k hk => Nat.le_of_not_lt (fun hlt => hne k (by omega) hk.symm))).setCell (by simp; omega) _
  · have := hg.size; simp [World.setCell]; omega

theorem MadeRel.far {w wr w' : World} {A : Option Addr} {n c : Nat} {st : Int} {sv : Value} {vs : List Value} {ss : List StateL} (h : MadeRel w wr A n c st sv vs ss) (hg : wr.grownBy w' sv.ownBlock) :
    w'.cell? ⟨w.heap.size + 1 + 1, 1, none⟩ = some sv ∧ w'.frozen? ⟨w.heap.size + 1 + 1, 1, none⟩ = false ∧ w.heap.size + 1 + 1 < w'.heap.size := by
  have hb : w'.heap[w.heap.size + 1 + 1]? = wr.heap[w.heap.size + 1 + 1]? := hg.block _ (by have := h.size; omega) (fun e => own_base h.own.row (by omega) e.symm)
  exact ⟨by rw [World.cell?_of_block hb]; exact h.m1, by rw [World.frozen?_of_block hb]; exact h.f1, by have := h.size; have := hg.size; omega⟩

/-- is it an empty arc that may not be? -/
def zB (full : Bool) (a b : Int) : Bool := full && (a == 0) && (b == 0)
theorem mkArc_zB (full : Bool) (n : Int) (e : ArcL) : mkArc full n e = ⟨if zB full (pick e.inn 3) (pick e.out 3) = true then 1 else pick e.inn 3, pick e.out 3, pick e.wt 10, pick e.to n⟩ := by
  unfold mkArc zB
  congr 1
  simp [and_assoc]

/-- a box that holds an arc -/
structure ArcBox (w : World) (g : Nat) (a : ArcL) : Prop where
  c0 : w.cell? ⟨g, 0, none⟩ = some (.int .i64 a.inn)
  c1 : w.cell? ⟨g, 1, none⟩ = some (.int .i64 a.out)
  c2 : w.cell? ⟨g, 2, none⟩ = some (.int .i64 a.wt)
  c3 : w.cell? ⟨g, 3, none⟩ = some (.int .i64 a.to)
  f0 : w.frozen? ⟨g, 0, none⟩ = false

/-- what the inner loop keeps (b: the state's box, b + 1: the node's) -/
structure InRel (wr wi : World) (b : Nat) (fin : Int) (av : Value) (l : List ArcL) (xf : Int) (xe : Bool) (A' : Option Addr) (n' c' : Nat) : Prop where
  own : OwnArcs wi (b + 2) av l
  s0 : wi.cell? ⟨b, 0, none⟩ = some (.int .i64 fin)
  s1 : wi.cell? ⟨b, 1, none⟩ = some av
  f0 : wi.frozen? ⟨b, 0, none⟩ = false
  f1 : wi.frozen? ⟨b, 1, none⟩ = false
  x2 : wi.cell? ⟨b + 1, 2, none⟩ = some (.slice A' n' c')
  bel : Below wr.heap.size wr wi
  size : b + 2 ≤ wi.heap.size

section
variable {wr wi wx w' : World} {b : Nat} {fin : Int} {av : Value} {l : List ArcL} {xf : Int} {xe : Bool} {A' : Option Addr} {n' c' : Nat}
theorem InRel.keep (h : InRel wr wi b fin av l xf xe A' n' c') (hb : Below wi.heap.size wi wx) : InRel wr wx b fin av l xf xe A' n' c' :=
  ⟨h.own.below hb (Nat.le_refl _), cellx hb h.s0, cellx hb h.s1, frozx hb h.s0 h.f0, frozx hb h.s1 h.f1, cellx hb h.x2, h.bel.trans (hb.mono h.bel.size), Nat.le_trans h.size hb.size⟩
theorem InRel.far (h : InRel wr wi b fin av l xf xe A' n' c') (hg : wi.grownBy w' av.ownBlock) : w'.cell? ⟨b, 1, none⟩ = some av ∧ w'.frozen? ⟨b, 1, none⟩ = false ∧ b < w'.heap.size := by
  have hb : w'.heap[b]? = wi.heap[b]? := hg.block _ (by have := h.size; omega) (fun e => own_base h.own (by omega) e.symm)
  exact ⟨by rw [World.cell?_of_block hb]; exact h.s1, by rw [World.frozen?_of_block hb]; exact h.f1, by have := h.size; have := hg.size; omega⟩
theorem InRel.app (h : InRel wr wi b fin av l xf xe A' n' c') (hwb : wr.heap.size ≤ b) (a : ArcL) {g cap k : Nat} (hk : k = l.length) (hg : wi.grownBy w' av.ownBlock)
    (hx : w'.ownsRow (b + 2) 78 4 (.slice (some ⟨g, 0, none⟩) (k + 1) cap) (k + 1) (arcsCells l ++ arcCells a)) :
    InRel wr (w'.setCell ⟨b, 1, none⟩ (.slice (some ⟨g, 0, none⟩) (k + 1) cap)) b fin (.slice (some ⟨g, 0, none⟩) (k + 1) cap) (l ++ [a]) xf xe A' n' c' := by
  have hne : ∀ j, j < b + 2 → some j ≠ av.ownBlock := fun j hj e => own_base h.own hj e.symm
  have hsz := h.size
  have hblk : ∀ j, j < b + 2 → w'.heap[j]? = wi.heap[j]? := fun j hj => hg.block j (by omega) (hne j hj)
  have hc : ∀ j o, j < b + 2 → w'.cell? ⟨j, o, none⟩ = wi.cell? ⟨j, o, none⟩ := fun j o hj => World.cell?_of_block (hblk j hj)
  have hf : ∀ j o, j < b + 2 → w'.frozen? ⟨j, o, none⟩ = wi.frozen? ⟨j, o, none⟩ := fun j o hj => World.frozen?_of_block (hblk j hj)
  have so : ∀ j o, (j ≠ b ∨ o ≠ 1) → ∀ u, (w'.setCell ⟨b, 1, none⟩ u).cell? ⟨j, o, none⟩ = w'.cell? ⟨j, o, none⟩ := by
    intro j o hj u
    exact World.cell?_setCell_other _ _ _ _ (by intro e; injection e with e1 e2; omega)
  have ho : OwnArcs w' (b + 2) (.slice (some ⟨g, 0, none⟩) (k + 1) cap) (l ++ [a]) := by
    unfold OwnArcs; rw [arcsCells_snoc, List.length_append]; subst hk; exact hx
  refine ⟨ho.setCell (own_base ho (by simp)) _, ?_, ?_, ?_, ?_, ?_, ?_, ?_⟩
  · rw [so _ _ (by omega), hc _ _ (by omega)]; exact h.s0
  · exact World.cell?_setCell_same _ _ _ (u := av) (by rw [hc _ _ (by omega)]; exact h.s1)
  · rw [World.frozen?_setCell, hf _ _ (by omega)]; exact h.f0
  · rw [World.frozen?_setCell, hf _ _ (by omega)]; exact h.f1
  · rw [so _ _ (by omega), hc _ _ (by omega)]; exact h.x2
  · exact (h.bel.grown hg (by omega) (fun k hk => Nat.le_of_not_lt (fun hlt => hne k (by omega) hk.symm))).setCell (by simp; omega) _
  · have := hg.size; simp [World.setCell]; omega
end

set_option maxRecDepth 100000 in
set_option maxHeartbeats 4000000 in
theorem made_any (v : Value) (r : RawL) (k : Int) (full : Bool) (w : World) (hr : RawArg w v r) (k1 : 1 ≤ k) (k2 : k ≤ 60) :
    Calls Tryd.prog 24 #[v, .int .i64 k, .bool full] w fun e w' => ∃ mv, e = .returned mv ∧ OwnMach w' w.heap.size mv (mkMach r k full) ∧ Below w.heap.size w w' := by
  obtain ⟨hst, hlen, A, c, rfl, hNd⟩ := hr
  have n1 : 1 ≤ mkN r k := by unfold mkN; omega
  have n2 : mkN r k ≤ 60 := by unfold mkN; omega
  have hmx : max (r.nodes.length : Int) 1 = if (r.nodes.length : Int) < 1 then 1 else (r.nodes.length : Int) := by omega
  have P0 := Lib.hid (fun w => picked_any r.start (mkN r k) w hst.1 hst.2 n1 (by omega))
  have rdA := hNd.rdy
  have HND := Lib.hid hNd; clear hNd hst
  go_enter Tryd.func24, Tryd.ntmps24
  go_upto_region 1 with fail
  go_cut [7] (fun s7 wx => s7 = .int .i64 (mkN r k) ∧ wx = (w.alloc (.cells #[.int .i64 r.start, .slice A r.nodes.length c] 62)).alloc (.cells #[.int .i64 0, .slice none 0 0] 41))
  case first =>
    go_wp2_with fail
    all_goals
      go_meet
      case rel => exact ⟨congrArg (Value.int .i64) (by unfold mkN; omega), rfl⟩
  case rest =>
    obtain ⟨rfl, rfl⟩ := hcut
    clear hmx
    have hm : mkMach r k full = ⟨pick r.start (mkN r k), mkStates r full (mkN r k) (mkN r k).toNat⟩ := rfl
    have HM := Lib.hid hm; clear hm
    generalize mkN r k = N at *
    go_wp2_with fail
    refine (P0.out _).mono ?_; rintro e w' ⟨rfl, rfl⟩
    generalize pick r.start N = st at *
    go_wp2_with fail
    go_loopw [9] (fun i wr => ∃ (q : Nat) (sv : Value) (vs : List Value), (q : Int) ≤ N ∧ i = .int .i64 q ∧ MadeRel w wr A r.nodes.length c st sv vs (mkStates r full N q)) (fun i _ => (N - intOf i).toNat)
    case atStart =>
      exact ⟨0, .slice none 0 0, [], by omega, rfl, ⟨OwnStV.nil _ _, by simp [go_sem], by simp [go_sem], by simp [go_sem], by simp [go_sem], by simp [go_sem], by simp [go_sem], by simp [go_sem], by simp [go_sem], by simp [go_sem], (by repeat' (first | exact Below.refl _ _ | assumption | refine Below.drew ?_ | refine Below.alloc ?_ (by first | omega | (simp; done) | (simp; omega)) _ | refine Below.setCell ?_ (by first | omega | (simp; done) | (simp; omega)) _)), by simp⟩⟩
    case round =>
      obtain ⟨q, sv, vs, hq, rfl, hR⟩ := hrel
      have HR := Lib.hid hR
      obtain ⟨hown, h1, h2, h3, h4, h5, h6, h7, h8, h9, bel, hsz⟩ := hR
      have l3 : w.heap.size < wr.heap.size := by omega
      have l6 : w.heap.size + 1 < wr.heap.size := by omega
      have l8 : w.heap.size + 1 + 1 < wr.heap.size := by omega
      have hro := hown.row
      clear hown
      have hl := mkStates_len r full N q
      rw [hl] at hro
      have HRO := Lib.hid hro
      clear hro bel hsz
      by_cases hqN : (q : Int) < N
      · by_cases hqn : q < r.nodes.length
        · have hNw := HND.out.below HR.out.bel (Nat.le_refl _)
          have d0 := hNw.c0 q hqn
          have d1 := hNw.c1 q hqn
          obtain ⟨A', c', d2, hA', hn'⟩ := hNw.c2 q hqn
          have hbd := hNw.bd q hqn
          have hsn : r.nodes[q]? = some r.nodes[q] := List.getElem?_eq_getElem hqn
          have hs : mkStates r full N (q + 1) = mkStates r full N q ++ [⟨mkFinal r.nodes[q], mkArcs full N r.nodes[q]⟩] := by rw [mkStates_snoc, hsn]; rfl
          generalize r.nodes[q] = x at *
          have HS := Lib.hid hs
          have HA := Lib.hid hA'
          have HBD := Lib.hid hbd
          clear hs hNw hsn hA' hbd
          have hlt : ¬ (r.nodes.length : Int) ≤ (q : Int) := by omega
          have lA : blk A < wr.heap.size := World.block_lt_of_cell? _ _ d0
          have P1 := Lib.hid (fun w => picked_any x.final 10 w HBD.out.1.1 HBD.out.1.2 (by omega) (by omega))
          have hfin : mkFinal x = if x.ends = true then pick x.final 10 else 1000000001 := rfl
          have HFIN := Lib.hid hfin; clear hfin
          go_upto_if 49 with fail
          go_cut [] (fun wx => wx = (wr.alloc (.cells #[.int .i64 (mkFinal x), .slice none 0 0] 76)).alloc (.cells #[.int .i64 x.final, .bool x.ends, .slice A' x.arcs.length c'] 127))
          case first =>
            cases he : x.ends
            · go_wp2_with fail
              go_meet
              case rel => rw [HFIN.out, he]; rfl
            · go_wp2_with (refine (P1.out _).mono ?_; rintro e w' ⟨rfl, rfl⟩)
              go_meet
              case rel => rw [HFIN.out, he]; rfl
          case rest =>
            subst hcut
            generalize mkFinal x = fin at *
            clear P1 d0 d1 d2 HFIN
            obtain ⟨wo, rfl⟩ : ∃ wo : World, wo = wr := ⟨_, rfl⟩
            have hx : x.arcs.length ≤ 9223372036854775807 := hn'
            go_wp2_with fail
            go_loopw [12] (fun i wi => ∃ (t : Nat) (av : Value), t ≤ x.arcs.length ∧ t ≤ 4 ∧ i = .int .i64 t ∧ InRel wo wi (wo.heap.size) fin av ((x.arcs.take t).map (mkArc full N)) x.final x.ends A' x.arcs.length c') (fun i _ => (4 - intOf i).toNat)
            case atStart => exact ⟨0, .slice none 0 0, by omega, by omega, rfl, ⟨OwnArcs.nil _ _, by simp [go_sem], by simp [go_sem], by simp [go_sem], by simp [go_sem], by simp [go_sem], (by repeat' (first | exact Below.refl _ _ | assumption | refine Below.drew ?_ | refine Below.alloc ?_ (by first | omega | (simp; done) | (simp; omega)) _ | refine Below.setCell ?_ (by first | omega | (simp; done) | (simp; omega)) _)), by simp⟩⟩
            case round =>
              obtain ⟨t, av, ht, ht4, rfl, hI⟩ := hrel
              obtain ⟨wi, rfl⟩ : ∃ wi : World, wi = wr := ⟨_, rfl⟩
              have HI := Lib.hid hI
              obtain ⟨own, i0, i1, g0, g1, i2, ibel, isz⟩ := hI
              have m1 : wo.heap.size < wi.heap.size := by omega
              have m2 : wo.heap.size + 1 < wi.heap.size := by omega
              by_cases hc4 : t < x.arcs.length ∧ t < 4
              · obtain ⟨c41, c42⟩ := hc4
                have hAi := HA.out.below ibel (Nat.le_refl _)
                have d0 := hAi.c0 t c41; have d1 := hAi.c1 t c41; have d2 := hAi.c2 t c41; have d3 := hAi.c3 t c41
                have rdA' := hAi.rdy
                have hbe := HBD.out.2 x.arcs[t] (List.getElem_mem c41)
                have hsn : (x.arcs.take (t + 1)).map (mkArc full N) = (x.arcs.take t).map (mkArc full N) ++ [mkArc full N x.arcs[t]] := by rw [take_snoc _ _ c41, List.map_append]; rfl
                generalize x.arcs[t] = e at *
                have lA' : blk A' < wi.heap.size := World.block_lt_of_cell? _ _ d0
                have HSN := Lib.hid hsn
                obtain ⟨⟨y1, y2⟩, ⟨y3, y4⟩, ⟨y5, y6⟩, ⟨y7, y8⟩⟩ := hbe
                have hma : mkArc full N e = ⟨if full = true ∧ pick e.inn 3 = 0 ∧ pick e.out 3 = 0 then 1 else pick e.inn 3, pick e.out 3, pick e.wt 10, pick e.to N⟩ := rfl
                have HMA := Lib.hid hma
                have g41 : (t : Int) < (x.arcs.length : Int) := by omega
                have g42 : (t : Int) < 4 := by omega
                clear hma hsn hAi own
                go_upto_region 16 with fail
                go_cut [13] (fun s13 wx => s13 = .pointer (some ⟨wi.heap.size, 0, none⟩) ∧ ArcBox wx wi.heap.size ⟨pick e.inn 3, pick e.out 3, pick e.wt 10, pick e.to N⟩ ∧ Below wi.heap.size wi wx ∧ wi.heap.size < wx.heap.size)
                case first =>
                  go_region_held3 (fun w' => w'.cell? ⟨wo.heap.size + 1, 2, none⟩ = some (.slice A' x.arcs.length c') ∧ w'.cell? ⟨blk A', ofs A' + t * 4, none⟩ = some (.int .i64 e.inn) ∧ w'.cell? ⟨blk A', ofs A' + t * 4 + 1, none⟩ = some (.int .i64 e.out) ∧ w'.cell? ⟨blk A', ofs A' + t * 4 + 2, none⟩ = some (.int .i64 e.wt) ∧ w'.cell? ⟨blk A', ofs A' + t * 4 + 3, none⟩ = some (.int .i64 e.to)) (go_keep) (first | (go_at_call 10; refine (picked_any _ _ _ (by omega) (by omega) (by omega) (by omega)).mono ?_; rintro e w' ⟨rfl, rfl⟩))
                  all_goals
                    go_wp2_with fail
                    go_meet
                    case rel => exact ⟨rfl, ⟨by simp [go_sem], by simp [go_sem], by simp [go_sem], by simp [go_sem], by simp [go_sem]⟩, (by repeat' (first | exact Below.refl _ _ | assumption | refine Below.drew ?_ | refine Below.alloc ?_ (by first | omega | (simp; done) | (simp; omega)) _ | refine Below.setCell ?_ (by first | omega | (simp; done) | (simp; omega)) _)), by simp⟩
                case rest =>
                  obtain ⟨rfl, hX, b1, s1⟩ := hcut
                  obtain ⟨wx, rfl⟩ : ∃ wx : World, wx = wc := ⟨_, rfl⟩
                  clear d0 d1 d2 d3 y1 y2 y3 y4 y5 y6 y7 y8
                  have HB1 := Lib.hid b1
                  have HX := Lib.hid hX
                  obtain ⟨x0, x1, x2, x3, xf⟩ := hX
                  clear b1
                  go_upto_region 17 with fail
                  go_cut [105] (fun s105 w2 => s105 = .bool (zB full (pick e.inn 3) (pick e.out 3)) ∧ w2 = wx)
                  case first =>
                    cases full
                    · go_wp2_with fail
                      go_meet
                      case rel => exact ⟨rfl, rfl⟩
                    · by_cases z0 : pick e.inn 3 = 0
                      · have z0' : (pick e.inn 3 == 0) = true := by simp [z0]
                        by_cases z1 : pick e.out 3 = 0
                        · have z1' : (pick e.out 3 == 0) = true := by simp [z1]
                          have hz : Value.bool (zB true (pick e.inn 3) (pick e.out 3)) = .bool true := by unfold zB; rw [z0', z1']; rfl
                          have HZ := Lib.hid hz; clear hz z0 z1
                          go_wp2_with fail
                          go_meet
                          case rel => exact ⟨HZ.out.symm, rfl⟩
                        · have z1' : (pick e.out 3 == 0) = false := by simp [z1]
                          have hz : Value.bool (zB true (pick e.inn 3) (pick e.out 3)) = .bool false := by unfold zB; rw [z0', z1']; rfl
                          have HZ := Lib.hid hz; clear hz z0 z1
                          go_wp2_with fail
                          go_meet
                          case rel => exact ⟨HZ.out.symm, rfl⟩
                      · have z0' : (pick e.inn 3 == 0) = false := by simp [z0]
                        have hz : Value.bool (zB true (pick e.inn 3) (pick e.out 3)) = .bool false := by unfold zB; rw [z0']; rfl
                        have HZ := Lib.hid hz; clear hz z0
                        go_wp2_with fail
                        go_meet
                        case rel => exact ⟨HZ.out.symm, rfl⟩
                  case rest =>
                    obtain ⟨rfl, rfl⟩ := hcut
                    obtain ⟨wx, rfl⟩ : ∃ wx : World, wx = wc := ⟨_, rfl⟩
                    have hz := mkArc_zB full N e
                    cases hzb : zB full (pick e.inn 3) (pick e.out 3)
                    · rw [hzb] at hz
                      rw [if_neg (by decide)] at hz
                      have HZ := Lib.hid hz; clear hz hzb
                      have hI2 := HI.out.keep HB1.out
                      have HI2 := Lib.hid hI2
                      obtain ⟨own2, v0, v1, v2, v3, v4, vb, vs2⟩ := hI2
                      have hol : ((x.arcs.take t).map (mkArc full N)).length = t := by simp; omega
                      have own3 : wx.ownsRow (wo.heap.size + 2) 78 4 av t (arcsCells ((x.arcs.take t).map (mkArc full N))) := by have := own2; unfold OwnArcs at this; rw [hol] at this; exact this
                      have HOW := Lib.hid own3
                      have ht1 : t + 1 ≤ 1000000 := by omega
                      have l5 : wo.heap.size < wx.heap.size := by omega
                      clear own2 own3 vb
                      go_wp2_with (at_builtin; refine wpList_app1 rfl _ _ rfl eltArc (wo.heap.size + 2) av t _ rfl wx HOW.out #[.int .i64 (pick e.inn 3), .int .i64 (pick e.out 3), .int .i64 (pick e.wt 10), .int .i64 (pick e.to N)] rfl wx.heap.size rfl rfl rfl (by simp [Value.oneCell']) ht1 (by omega) vs2 ?_; intro g cap w3 hown1 hg1 hat hlt3; obtain ⟨e1, e2, e3⟩ := HI2.out.far hg1)
                      have hI3 := HI2.out.app (Nat.le_refl _) (mkArc full N e) (by rw [hol]) hg1 (by rw [HZ.out]; exact hown1)
                      rw [← HSN.out] at hI3
                      have HI3 := Lib.hid hI3
                      clear hI3 hown1 hg1 hol
                      go_roundw
                      case rel => exact ⟨t + 1, _, by omega, by omega, by go_num, HI3.out⟩
                      case measure => simp [intOf]; omega
                    · rw [hzb] at hz
                      rw [if_pos rfl] at hz
                      have HZ := Lib.hid hz; clear hz hzb
                      have hI2 := HI.out.keep (HB1.out.setCell (p := ⟨wi.heap.size, 0, none⟩) (Nat.le_refl _) (.int .i64 1))
                      have HI2 := Lib.hid hI2
                      obtain ⟨own2, v0, v1, v2, v3, v4, vb, vs2⟩ := hI2
                      have hol : ((x.arcs.take t).map (mkArc full N)).length = t := by simp; omega
                      have own3 : (wx.setCell ⟨wi.heap.size, 0, none⟩ (.int .i64 1)).ownsRow (wo.heap.size + 2) 78 4 av t (arcsCells ((x.arcs.take t).map (mkArc full N))) := by have := own2; unfold OwnArcs at this; rw [hol] at this; exact this
                      have HOW := Lib.hid own3
                      have ht1 : t + 1 ≤ 1000000 := by omega
                      have l5 : wo.heap.size < wx.heap.size := by have := HB1.out.size; omega
                      clear own2 own3 vb
                      go_wp2_with (at_builtin; refine wpList_app1 rfl _ _ rfl eltArc (wo.heap.size + 2) av t _ rfl (wx.setCell ⟨wi.heap.size, 0, none⟩ (.int .i64 1)) HOW.out #[.int .i64 1, .int .i64 (pick e.out 3), .int .i64 (pick e.wt 10), .int .i64 (pick e.to N)] rfl wx.heap.size (by simp [World.setCell]) rfl rfl (by simp [Value.oneCell']) ht1 (by omega) vs2 ?_; intro g cap w3 hown1 hg1 hat hlt3; obtain ⟨e1, e2, e3⟩ := HI2.out.far hg1)
                      have hI3 := HI2.out.app (Nat.le_refl _) (mkArc full N e) (by rw [hol]) hg1 (by rw [HZ.out]; exact hown1)
                      rw [← HSN.out] at hI3
                      have HI3 := Lib.hid hI3
                      clear hI3 hown1 hg1 hol
                      go_roundw
                      case rel => exact ⟨t + 1, _, by omega, by omega, by go_num, HI3.out⟩
                      case measure => simp [intOf]; omega
              · have hlim : (x.arcs.take t).map (mkArc full N) = mkArcs full N x := by
                  unfold mkArcs
                  rcases Nat.lt_or_ge t 4 with h | h
                  · rw [List.take_of_length_le (by omega), List.take_of_length_le (by omega)]
                  · rw [show t = 4 by omega]
                have gn : ¬ ((t : Int) < (x.arcs.length : Int) ∧ (t : Int) < 4) := by omega
                rw [hlim] at HI
                have hR1 := HR.out.keep ibel
                have HR1 := Lib.hid hR1
                obtain ⟨-, z1, z2, z3, z4, z5, z6, z7, z8, z9, -, zs⟩ := hR1
                have hRow := HR1.out.own.row
                rw [hl] at hRow
                have HRW := Lib.hid hRow
                have hq1 : q + 1 ≤ 1000000 := by omega
                clear hRow hlim own ibel h1 h2 h3 h4 h5 h6 h7 h8 h9
                have m3 : w.heap.size < wi.heap.size := by omega
                have m6 : w.heap.size + 1 < wi.heap.size := by omega
                have m8 : w.heap.size + 1 + 1 < wi.heap.size := by omega
                go_wp2_with (at_builtin; refine wpList_app1 rfl _ _ rfl eltState (w.heap.size + 3) sv q _ rfl wi HRW.out #[.int .i64 fin, av] rfl wi.heap.size rfl rfl rfl (by obtain ⟨A9, c9, h9, -, -⟩ := HI.out.own.form; rw [h9]; simp [Value.oneCell']) hq1 (by omega) zs ?_; intro g cap w1 hown1 hg1 hat hlt; obtain ⟨e1, e2, e3⟩ := HR1.out.far hg1)
                all_goals
                  have hR2 := HR1.out.app ⟨fin, mkArcs full N x⟩ (HI.out.own.mono (by omega)) (by rw [hl]) hg1 hown1
                  rw [← HS.out] at hR2
                  have HR2 := Lib.hid hR2
                  clear hR2 hown1 hg1 hl
                  go_roundw
                  case rel => exact ⟨q + 1, _, _, by omega, by go_num, HR2.out⟩
                  case measure => simp [intOf]; omega
        · have hge : (r.nodes.length : Int) ≤ (q : Int) := by omega
          have hR1 : MadeRel w (wr.alloc (.cells #[.int .i64 0, .slice none 0 0] 76)) A r.nodes.length c st sv vs (mkStates r full N q) := HR.out.keep ((Below.refl _ _).alloc (Nat.le_refl _) _)
          have HR1 := Lib.hid hR1
          have hq1 : q + 1 ≤ 1000000 := by omega
          have hb3 := hR1.size
          clear hR1
          go_wp2_with (at_builtin; refine wpList_app1 rfl _ _ rfl eltState (w.heap.size + 3) sv q _ rfl (wr.alloc (.cells #[.int .i64 0, .slice none 0 0] 76)) (HRO.out.alloc _) #[.int .i64 0, .slice none 0 0] rfl (wr.heap.size + 1) (by simp) rfl rfl (by simp [Value.oneCell']) hq1 (by omega) hb3 ?_; intro g cap w1 hown1 hg1 hat hlt; obtain ⟨e1, e2, e3⟩ := HR1.out.far hg1)
          have hnone : r.nodes[q]? = none := List.getElem?_eq_none (by omega)
          have hs : mkStates r full N (q + 1) = mkStates r full N q ++ [⟨0, []⟩] := by rw [mkStates_snoc, hnone]; rfl
          have hR2 := HR1.out.app ⟨0, []⟩ (OwnArcs.nil _ _) (by rw [hl]) hg1 hown1
          rw [← hs] at hR2
          have HR2 := Lib.hid hR2
          clear hs hR2 hown1 hg1 hnone hl
          go_roundw
          case rel => exact ⟨q + 1, _, _, by omega, by go_num, HR2.out⟩
          case measure => simp [intOf]; omega
      · have hqe : N.toNat = q := by omega
        rw [hqe] at HM
        clear HRO hl
        obtain ⟨A', c', rfl, -, -⟩ := HR.out.own.form
        generalize (mkStates r full N q).length = q' at *
        have bel := HR.out.bel
        go_wp2_with fail
        refine bodyPost_ret (v := .agg #[.int .i64 st, .slice A' q' c']) (by simp [results, Tryd.results24, go_sem, *]) rfl ⟨_, rfl, ?_, ?_⟩
        · rw [HM.out]
          exact ⟨_, rfl, vs, ((HR.out.own.setCell (by simp) _).setCell (by simp) _).mono (by omega)⟩
        · exact (bel.setCell (by simp) _).setCell (by simp) _
end Go.Proofs.YtkmnacchiagipaaDoor
