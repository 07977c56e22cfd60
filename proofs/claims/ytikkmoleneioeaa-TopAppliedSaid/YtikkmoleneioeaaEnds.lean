/- distance.Ends walked. -/
import Derived.Test.YtikkmoleneioeaaDist
import Derived.Test.YtikkmoleneioeaaRegionLast
import Derived.Deep.RegionHeld3
import Derived.Deep.CutBlock
namespace Go.Proofs.Ytikkmoleneioeaa
open Go.RowKit

def fE (q : Nat) (a : ArcL) : Nat × (Nat × Int) := (a.to.toNat, (q, a.wt))
def gE (s : StateL) : Int := s.final
def endsFirst (m : MachL) : List Int := m.states.map gE
def endsE (m : MachL) : Edges := addEs m.states.length (pairsTo fE m.states m.states.length)

theorem Ends_ok {m : MachL} (hv : Valid m) : FarOk m.states.length (endsFirst m) (endsE m) := by
  have hp : ∀ x ∈ pairsTo fE m.states m.states.length, x.1 < m.states.length ∧ x.2.1 < m.states.length ∧ 0 ≤ x.2.2 ∧ x.2.2 ≤ 1000000000 := by
    intro x hx
    obtain ⟨q, hq, hl, a, ha, rfl⟩ := (pairsTo_mem _ _ _ _).1 hx
    have h1 := (hv.st _ (List.getElem_mem hl)).2 a ha
    have := h1.t0; have := h1.t1; have := h1.w0; have := h1.w1
    simp only [fE]
    omega
  refine ⟨by simp [endsFirst], addEs_len _ _, fun x hx => ?_, fun l hl e he => ?_⟩
  · obtain ⟨s, hs, rfl⟩ := List.mem_map.1 hx
    have := (hv.st s hs).1
    unfold ValidFinal at this
    unfold gE; omega
  · obtain ⟨q, hq, rfl⟩ := List.getElem_of_mem hl
    have hg : (endsE m).getD q [] = (endsE m)[q] := by simp [List.getD_eq_getElem?_getD, hq]
    rw [← hg] at he
    have := hp _ ((addEs_mem _ _ (fun y hy => (hp y hy).1) q e).1 he)
    exact this.2
theorem Ends_mem {m : MachL} (hv : Valid m) (q : Nat) (e : Nat × Int) : e ∈ (endsE m).getD q [] ↔ ∃ p, ∃ h : p < m.states.length, ∃ a ∈ m.states[p].arcs, fE p a = (q, e) := by
  unfold endsE
  rw [addEs_mem]
  · rw [pairsTo_mem]
    constructor
    · rintro ⟨p, _, h⟩; exact ⟨p, h⟩
    · rintro ⟨p, h, r⟩; exact ⟨p, h, h, r⟩
  · intro x hx
    obtain ⟨q, hq, hl, a, ha, rfl⟩ := (pairsTo_mem _ _ _ _).1 hx
    have h1 := (hv.st _ (List.getElem_mem hl)).2 a ha
    have := h1.t0; have := h1.t1
    simp only [fE]
    omega

set_option maxRecDepth 100000 in
set_option maxHeartbeats 8000000 in
theorem Ends_any (v : Value) (m : MachL) (w : World) (hm : MachAt w v m) (hv : Valid m) (hs : ∀ q c, Way (endsFirst m) (endsE m) q c → ∃ c', Way (endsFirst m) (endsE m) q c' ∧ c' ≤ 1000000000) :
    Calls Try.prog 58 #[v] w fun e w' => ∃ sv, e = .returned (.tuple #[sv, .int .i64 0]) ∧ DistAt w w' sv m.states.length (endsFirst m) (endsE m) ∧ Below w.heap.size w w' := by
  have CH := Lib.hid (fun W hb => Check_ok v m W (hm.below hb) hv)
  have hOK := Ends_ok hv
  have hto := Lib.hid (fun s hs a ha => (⟨((hv.st s hs).2 a ha).t0, ((hv.st s hs).2 a ha).t1⟩ : 0 ≤ (a : ArcL).to ∧ a.to < m.states.length))
  obtain ⟨A, c, rfl, hS⟩ := hm
  have hsz := hv.size
  have har := hv.arcs
  have hs0 := hv.s0; have hs1 := hv.s1
  have HS := Lib.hid hS
  have rd := hS.rdy
  have HL := Lib.hid (arcsOf_le m.states)
  have HW := Lib.hid hs; have HOK := Lib.hid hOK
  have HFI : Hid (endsFirst m = m.states.map gE) := Lib.hid rfl
  have HEI : Hid (endsE m = addEs m.states.length (pairsTo fE m.states m.states.length)) := Lib.hid rfl
  clear hS hv hs hOK
  generalize endsFirst m = first at *
  generalize endsE m = E at *
  generalize m.states = ss at *
  generalize m.start = st at *
  go_enter Try.func58, Try.ntmps58
  go_wp2_with fail
  refine (CH.out _ (by repeat' (first | exact Below.refl _ _ | assumption | refine Below.drew ?_ | refine Below.alloc ?_ (by first | omega | (simp; done) | (simp; omega)) _ | refine Below.setCell ?_ (by first | omega | (simp; done) | (simp; omega)) _))).mono ?_
  rintro e w1 ⟨rfl, bel⟩
  have M1 : Hid (Blk w1 w.heap.size #[.int .i64 st, .slice A ss.length c] 28) := Lib.hid (Blk.step (Blk.new' (by simp)) bel)
  have b1 : Below w.heap.size w w1 := ((Below.refl _ _).alloc (Nat.le_refl _) _).trans (bel.mono (by simp))
  have k1 := M1.out.cell; have l1 := M1.out.lt
  clear bel CH
  have hmk := run_make_elt eltInt w1 ss.length (by omega) (by omega) (by omega)
  have hmk2 := run_make_elt eltEdges (w1.alloc (.cells (icellsA (List.replicate ss.length 0)) 3)) ss.length (by omega) (by omega) (by omega)
  simp only [Value.cells, Nat.mul_one, madeInts] at hmk
  simp only [Value.cells, Nat.mul_one, made_at, List.toArray_replicate] at hmk2
  go_wp2_with fail
  have G0 : EK w1 ((w1.alloc (.cells (icellsA (List.replicate ss.length 0)) 3)).alloc (.cells (Array.replicate ss.length (.slice none 0 0)) 148)) (firstTo gE ss 0) (List.replicate ss.length (.slice none 0 0)) (addEs ss.length (pairsTo fE ss 0)) :=
    ⟨by
      have := Grid.made (enc := encE) (e := 150) (et := 148) (size := 2) (B := w1.heap.size + 2) (w1.alloc (.cells (icellsA (List.replicate ss.length 0)) 3)) ss.length
      simpa [addEs, pairsTo] using this, by rw [firstTo_zero]; exact (Blk.new _ _ _).alloc _, ((Below.refl _ _).alloc (Nat.le_refl _) _).alloc (by simp) _⟩
  generalize (w1.alloc (.cells (icellsA (List.replicate ss.length 0)) 3)).alloc (.cells (Array.replicate ss.length (.slice none 0 0)) 148) = wl at *
  clear hmk hmk2
  go_loopw [27] (fun i wr => ∃ (k : Nat) (vs : List Value), k ≤ ss.length ∧ i = .int .i64 k ∧ EK w1 wr (firstTo gE ss k) vs (addEs ss.length (pairsTo fE ss k))) (fun i _ => ss.length - (intOf i).toNat)
  case atStart => exact ⟨0, _, by omega, rfl, G0⟩
  case round =>
    obtain ⟨k, vs, hk, rfl, hB⟩ := hrel
    have HB := Lib.hid hB
    have bw : Below w.heap.size w wr := b1.trans (hB.bel.mono b1.size)
    by_cases hlt : k < ss.length
    · have hSr := HS.out.below bw (Nat.le_refl _)
      have d0 := hSr.c0 k hlt
      obtain ⟨A', c', d1', hA'⟩ := HS.out.c1 k hlt
      have d1 := cell_keep bw (Nat.le_refl _) d1'
      have lA : blk A < wr.heap.size := World.block_lt_of_cell? _ _ d0
      have hfs := firstTo_succ gE ss k hlt
      have hps := pairsTo_succ fE ss k hlt
      have hvs := hto.out _ (List.getElem_mem hlt)
      have hpl := pairsTo_len fE ss k hk
      have hal := arcsOf_take ss k hlt
      have hal2 := HL.out (k + 1)
      have kc := hB.fb.cell k
      rw [icellsA_get _ _ (by rw [firstTo_len _ _ _ hk]; exact hlt)] at kc
      have kf := hB.fb.froz; have kl := hB.fb.lt
      generalize ss[k] = s at *
      have HA : Hid (ArcsAt w A' s.arcs) := Lib.hid hA'
      have rdA := hA'.rdy
      have i0 : (0 : Int) ≤ ↑k := by omega
      have i1 : (↑k : Int) < ↑ss.length := by omega
      have hx5 : (pairsTo fE ss k).length + s.arcs.length ≤ 400 := by omega
      have hsa : s.arcs.length ≤ 400 := by omega
      have HFS := Lib.hid hfs; have HPS := Lib.hid hps; have HVS := Lib.hid hvs
      clear hSr hA' d1' hfs hps hvs hpl hal hal2 hB
      obtain ⟨wo, rfl⟩ : ∃ wo : World, wo = wr := ⟨_, rfl⟩
      generalize (firstTo gE ss k).getD k 0 = x0 at *
      go_wp2_with fail
      have HB2 : Hid (EK w1 ((wo.setCell ⟨w1.heap.size, k, none⟩ (.int .i64 s.final)).alloc (.cells #[.int .i64 s.final, .slice A' s.arcs.length c'] 59)) (firstTo gE ss (k + 1)) vs (addEs ss.length (pairsTo fE ss k))) := Lib.hid (by
        have := (HB.out.setFirst k s.final).keep ((Below.refl _ _).alloc (Nat.le_refl _) (.cells #[.int .i64 s.final, .slice A' s.arcs.length c'] 59))
        rw [HFS.out]; exact this)
      generalize (wo.setCell ⟨w1.heap.size, k, none⟩ (.int .i64 s.final)).alloc (.cells #[.int .i64 s.final, .slice A' s.arcs.length c'] 59) = w6 at *
      clear d0 d1 kc kf kl
      go_loopw [40] (fun i wr => ∃ (t : Nat) (vs' : List Value), t ≤ s.arcs.length ∧ i = .int .i64 t ∧ EK w1 wr (firstTo gE ss (k + 1)) vs' (addEs ss.length (pairsTo fE ss k ++ (s.arcs.take t).map (fE k)))) (fun i _ => s.arcs.length - (intOf i).toNat)
      case atStart => exact ⟨0, vs, by omega, rfl, by simpa using HB2.out⟩
      case round =>
        obtain ⟨t, vs', ht, rfl, hB⟩ := hrel
        have HBt := Lib.hid hB
        by_cases hlt2 : t < s.arcs.length
        · have bwr : Below w.heap.size w wr := b1.trans (hB.bel.mono b1.size)
          have hAr := HA.out.below bwr (Nat.le_refl _)
          have f0 := hAr.c0 t hlt2; have f1 := hAr.c1 t hlt2; have f2 := hAr.c2 t hlt2; have f3 := hAr.c3 t hlt2
          have hva := HVS.out _ (List.getElem_mem hlt2)
          have hsn := addEs_snoc ss.length (pairsTo fE ss k ++ (s.arcs.take t).map (fE k)) (fE k s.arcs[t])
          rw [List.append_assoc, ← List.map_singleton, ← List.map_append, ← List.take_succ_eq_append_getElem hlt2] at hsn
          have hlen := addEs_len ss.length (pairsTo fE ss k ++ (s.arcs.take t).map (fE k))
          generalize s.arcs[t] = a at *
          obtain ⟨q, hp⟩ : ∃ p : Nat, a.to = p := ⟨a.to.toNat, by omega⟩
          have hp2 : a.to.toNat = q := by omega
          have hpn : q < ss.length := by omega
          rw [hp] at f3
          skip
          have hqn : q < ss.length := by omega
          have hrq := addEs_row ss.length (pairsTo fE ss k ++ (s.arcs.take t).map (fE k)) q
          simp only [List.length_append, List.length_map, List.length_take] at hrq
          generalize addEs ss.length (pairsTo fE ss k ++ (s.arcs.take t).map (fE k)) = rt at *
          have hqr : q < rt.length := by rw [hlen]; exact hqn
          have hgd : rt.getD q [] = rt[q] := by simp [List.getD_eq_getElem?_getD, hqr]
          simp only [addE, fE, hp2] at hsn
          skip
          rw [hgd] at hsn hrq
          have hqv : q < vs'.length := by rw [hB.grid.len]; exact hqr
          obtain ⟨A2, c2, hv2, hc2, hc3⟩ := hB.grid.form q hqr
          have hcell := hB.grid.cell q hqr
          rw [hv2] at hcell
          have hv3 : vs'[q]'hqv = .slice A2 rt[q].length c2 := hv2
          have hown := hB.grid.own q hqr hqv
          rw [hv3] at hown
          have HSN := Lib.hid hsn; have HOWN := Lib.hid hown; have HV3 := Lib.hid hv3
          have lA' := World.block_lt_of_cell? _ _ f0
          have lG := World.block_lt_of_cell? _ _ hcell
          have ho0 := hB.grid.outer.froz
          have hrl5 : rt[q].length ≤ 800 := by omega
          have q0 : (0 : Int) ≤ ↑q := by omega
          have q1 : (↑q : Int) < ↑ss.length := by omega
          clear hAr hva hsn hlen hrq hgd hown hB hv2 hv3 
          obtain ⟨wi, rfl⟩ : ∃ wx : World, wx = wr := ⟨_, rfl⟩
          have HB7 := Lib.hid (HBt.out.keep ((Below.refl _ _).alloc (Nat.le_refl _) (.cells #[.int .i64 a.inn, .int .i64 a.out, .int .i64 a.wt, .int .i64 q] 65)))
          have A7 : Blk (wi.alloc (.cells #[.int .i64 a.inn, .int .i64 a.out, .int .i64 a.wt, .int .i64 q] 65)) wi.heap.size #[.int .i64 a.inn, .int .i64 a.out, .int .i64 a.wt, .int .i64 q] 65 := Blk.new _ _ _
          have O7 := Lib.hid (own_below HOWN.out ((Below.refl _ _).alloc (Nat.le_refl _) (.cells #[.int .i64 a.inn, .int .i64 a.out, .int .i64 a.wt, .int .i64 q] 65)) (Nat.le_refl _))
          have c7 := cell_keep ((Below.refl _ _).alloc (Nat.le_refl _) (.cells #[.int .i64 a.inn, .int .i64 a.out, .int .i64 a.wt, .int .i64 q] 65)) (Nat.le_refl _) hcell
          go_upto_region 13 with fail
          generalize wi.alloc (.cells #[.int .i64 a.inn, .int .i64 a.out, .int .i64 a.wt, .int .i64 q] 65) = w7 at *
          have k7 := A7.cell; have l7 := A7.lt
          have f7 := HB7.out.grid.outer.froz
          have lG7 := World.block_lt_of_cell? _ _ c7
          have lGi : w1.heap.size + 1 < wi.heap.size := lG
          clear ho0 hcell lG f0 f1 f2 f3 lA'
          have K8 : Hid (w7.cell? ⟨wi.heap.size, 2, none⟩ = some (.int .i64 a.wt)) := Lib.hid (by simpa using k7 2)
          have K9 : Hid (w7.cell? ⟨wi.heap.size, 3, none⟩ = some (.int .i64 q)) := Lib.hid (by simpa using k7 3)
          have K10 := Lib.hid c7
          refine wp_region_noPanic ?_
          refine wp_region_last_drew (fun w' => w'.cell? ⟨wi.heap.size, 2, none⟩ = some (.int .i64 a.wt) ∧ w'.cell? ⟨wi.heap.size, 3, none⟩ = some (.int .i64 q) ∧ w'.cell? ⟨w1.heap.size + 1, q, none⟩ = some (.slice A2 rt[q].length c2)) (by kernel_rfl) (by simp only [List.back?_toArray, List.getLast?_cons_cons, List.getLast?_singleton]; rfl) (by simp only [List.pop_toArray, List.dropLast_cons_cons, List.dropLast_singleton]; rfl) (by kernel_rfl) ⟨K8.out, K9.out, K10.out⟩ (fun hHeld => ?_)
          refine wpAnyH_take (i := 0) (v := ?v0) (by simp only [List.getElem?_toArray, List.getElem?_cons_zero]; rfl) (by kernel_rfl) (by kernel_rfl) (by kernel_rfl) (fun _ _ _ h => h) (Or.inl ⟨by rfl, ?h0⟩) hHeld ?r0
          case h0 => intro w hSw; (try dsimp only at hSw); go_simp; with_reducible rfl
          simp only [Act.put, List.setIfInBounds_toArray, List.set_cons_zero, List.set_cons_succ]
          refine wpAnyH_take (i := 1) (v := ?v1) (by simp only [List.getElem?_toArray, List.getElem?_cons_succ, List.getElem?_cons_zero]; rfl) (by kernel_rfl) (by kernel_rfl) (by kernel_rfl) (fun _ _ _ h => h) (Or.inl ⟨by rfl, ?h1⟩) hHeld ?r1
          case h1 => intro w hSw; (try dsimp only at hSw); go_simp; with_reducible rfl
          simp only [Act.put, List.setIfInBounds_toArray, List.set_cons_zero, List.set_cons_succ]
          refine wpAnyH_take (i := 2) (v := ?v2) (by simp only [List.getElem?_toArray, List.getElem?_cons_succ, List.getElem?_cons_zero]; rfl) (by kernel_rfl) (by kernel_rfl) (by kernel_rfl) (fun _ _ _ h => h) (Or.inl ⟨by rfl, ?h2⟩) hHeld ?r2
          case h2 => intro w hSw; (try dsimp only at hSw); go_simp; with_reducible rfl
          simp only [Act.put, List.setIfInBounds_toArray, List.set_cons_zero, List.set_cons_succ]
          refine wpAnyH_take (i := 3) (v := ?v3) (by simp only [List.getElem?_toArray, List.getElem?_cons_succ, List.getElem?_cons_zero]; rfl) (by kernel_rfl) (by kernel_rfl) (by kernel_rfl) (fun _ _ _ h => h) (Or.inl ⟨by rfl, ?h3⟩) hHeld ?r3
          case h3 => intro w hSw; (try dsimp only at hSw); go_simp; with_reducible rfl
          simp only [Act.put, List.setIfInBounds_toArray, List.set_cons_zero, List.set_cons_succ]
          refine wpAnyH_take (i := 4) (v := ?v4) (by simp only [List.getElem?_toArray, List.getElem?_cons_succ, List.getElem?_cons_zero]; rfl) (by kernel_rfl) (by kernel_rfl) (by kernel_rfl) (fun _ _ _ h => h) (Or.inl ⟨by rfl, ?h4⟩) hHeld ?r4
          case h4 => intro w hSw; (try dsimp only at hSw); go_simp; with_reducible rfl
          simp only [Act.put, List.setIfInBounds_toArray, List.set_cons_zero, List.set_cons_succ]
          refine wpAnyH_take (i := 5) (v := ?v5) (by simp only [List.getElem?_toArray, List.getElem?_cons_succ, List.getElem?_cons_zero]; rfl) (by kernel_rfl) (by kernel_rfl) (by kernel_rfl) (fun _ _ _ h => h) (Or.inl ⟨by rfl, ?h5⟩) hHeld ?r5
          case h5 => intro w hSw; (try dsimp only at hSw); go_simp; with_reducible rfl
          simp only [Act.put, List.setIfInBounds_toArray, List.set_cons_zero, List.set_cons_succ]
          refine wpAnyH_take (i := 6) (v := ?v6) (by simp only [List.getElem?_toArray, List.getElem?_cons_succ, List.getElem?_cons_zero]; rfl) (by kernel_rfl) (by kernel_rfl) (by kernel_rfl) (fun _ _ _ h => h) (Or.inl ⟨by rfl, ?h6⟩) hHeld ?r6
          case h6 => intro w hSw; (try dsimp only at hSw); go_simp; with_reducible rfl
          simp only [Act.put, List.setIfInBounds_toArray, List.set_cons_zero, List.set_cons_succ]
          refine wpAnyH_take (i := 7) (v := ?v7) (by simp only [List.getElem?_toArray, List.getElem?_cons_succ, List.getElem?_cons_zero]; rfl) (by kernel_rfl) (by kernel_rfl) (by kernel_rfl) (fun _ _ _ h => h) (Or.inl ⟨by rfl, ?h7⟩) hHeld ?r7
          case h7 => intro w hSw; (try dsimp only at hSw); go_simp; with_reducible rfl
          simp only [Act.put, List.setIfInBounds_toArray, List.set_cons_zero, List.set_cons_succ]
          refine wpAnyH_take (i := 8) (v := ?v8) (by simp only [List.getElem?_toArray, List.getElem?_cons_succ, List.getElem?_cons_zero]; rfl) (by kernel_rfl) (by kernel_rfl) (by kernel_rfl) (fun _ _ _ h => h) (Or.inl ⟨by rfl, ?h8⟩) hHeld ?r8
          case h8 => intro w hSw; (try dsimp only at hSw); go_simp; with_reducible rfl
          simp only [Act.put, List.setIfInBounds_toArray, List.set_cons_zero, List.set_cons_succ]
          refine wpAnyH_take (i := 9) (v := ?v9) (by simp only [List.getElem?_toArray, List.getElem?_cons_succ, List.getElem?_cons_zero]; rfl) (by kernel_rfl) (by kernel_rfl) (by kernel_rfl) (fun _ _ _ h => h) (Or.inl ⟨by rfl, ?h9⟩) hHeld ?r9
          case h9 => intro w hSw; (try dsimp only at hSw); go_simp; with_reducible rfl
          simp only [Act.put, List.setIfInBounds_toArray, List.set_cons_zero, List.set_cons_succ]
          refine wpAnyH_take (i := 10) (v := ?v10) (by simp only [List.getElem?_toArray, List.getElem?_cons_succ, List.getElem?_cons_zero]; rfl) (by kernel_rfl) (by kernel_rfl) (by kernel_rfl) (fun _ _ _ h => h) (Or.inl ⟨by rfl, ?h10⟩) hHeld ?r10
          case h10 => intro w hSw; (try dsimp only at hSw); go_simp; with_reducible rfl
          simp only [Act.put, List.setIfInBounds_toArray, List.set_cons_zero, List.set_cons_succ]
          refine wpAnyH_take (i := 11) (v := ?v11) (by simp only [List.getElem?_toArray, List.getElem?_cons_succ, List.getElem?_cons_zero]; rfl) (by kernel_rfl) (by kernel_rfl) (by kernel_rfl) (fun _ _ _ h => h) (Or.inl ⟨by rfl, ?h11⟩) hHeld ?r11
          case h11 => intro w hSw; (try dsimp only at hSw); go_simp; with_reducible rfl
          simp only [Act.put, List.setIfInBounds_toArray, List.set_cons_zero, List.set_cons_succ]
          refine wpAnyH_ready (rs := [12]) (by kernel_rfl) (by simp) (AllReadyH.cons (by simp only [List.getElem?_toArray, List.getElem?_cons_succ, List.getElem?_cons_zero]; rfl) (fun K hK => ?s9) AllReadyH.nil)
          go_simp
          refine hK.out _ _ ⟨cell_keep (by repeat' (first | exact Below.refl _ _ | assumption | refine Below.drew ?_ | refine Below.alloc ?_ (by first | omega | (simp; done) | (simp; omega)) _ | refine Below.setCell ?_ (by first | omega | (simp; done) | (simp; omega)) _)) (Nat.le_refl _) K8.out, cell_keep (by repeat' (first | exact Below.refl _ _ | assumption | refine Below.drew ?_ | refine Below.alloc ?_ (by first | omega | (simp; done) | (simp; omega)) _ | refine Below.setCell ?_ (by first | omega | (simp; done) | (simp; omega)) _)) (Nat.le_refl _) K9.out, cell_keep (by repeat' (first | exact Below.refl _ _ | assumption | refine Below.drew ?_ | refine Below.alloc ?_ (by first | omega | (simp; done) | (simp; omega)) _ | refine Below.setCell ?_ (by first | omega | (simp; done) | (simp; omega)) _)) (Nat.le_refl _) K10.out⟩ (fun hHeld => ?_)
          clear hK K
          refine wpAnyH_ready (rs := [13]) (by kernel_rfl) (by simp) (AllReadyH.cons (by simp only [List.getElem?_toArray, List.getElem?_cons_succ, List.getElem?_cons_zero]; rfl) (fun K hK => ?s10) AllReadyH.nil)
          refine step_app1 (by rfl) _ _ (by rfl) eltEdge (w1.heap.size + 2) (.slice A2 rt[q].length c2) _ _ (by rfl) (O7.out.alloc _) w7.heap.size #[.int .i64 k, .int .i64 a.wt] (heap_alloc_new w7 _) (by rfl) (by rfl) (by simp [Value.oneCell']) (by omega) (by omega) (by simp; omega) ?_; intro g3 cap w8 ho8 hg8 hat8 hlt8; have z1 := hg8.cell (cell_keep (by repeat' (first | exact Below.refl _ _ | assumption | refine Below.drew ?_ | refine Below.alloc ?_ (by first | omega | (simp; done) | (simp; omega)) _ | refine Below.setCell ?_ (by first | omega | (simp; done) | (simp; omega)) _)) (Nat.le_refl _) K8.out) (own_lt HOWN.out (Nat.le_refl _)).symm; have z2 := hg8.cell (cell_keep (by repeat' (first | exact Below.refl _ _ | assumption | refine Below.drew ?_ | refine Below.alloc ?_ (by first | omega | (simp; done) | (simp; omega)) _ | refine Below.setCell ?_ (by first | omega | (simp; done) | (simp; omega)) _)) (Nat.le_refl _) K9.out) (own_lt HOWN.out (Nat.le_refl _)).symm; have z3 := hg8.cell (cell_keep (by repeat' (first | exact Below.refl _ _ | assumption | refine Below.drew ?_ | refine Below.alloc ?_ (by first | omega | (simp; done) | (simp; omega)) _ | refine Below.setCell ?_ (by first | omega | (simp; done) | (simp; omega)) _)) (Nat.le_refl _) K10.out) (own_base HOWN.out (b := w1.heap.size + 1) (by omega)).symm; have z4 := (Blk.grown (Blk.step HB7.out.grid.outer (by repeat' (first | exact Below.refl _ _ | assumption | refine Below.drew ?_ | refine Below.alloc ?_ (by first | omega | (simp; done) | (simp; omega)) _ | refine Below.setCell ?_ (by first | omega | (simp; done) | (simp; omega)) _))) hg8 (own_base HOWN.out (b := w1.heap.size + 1) (by omega)).symm).froz q
          refine hK.out _ _ ⟨z1, z2, z3⟩ (fun hHeld => ?_)
          clear hK K
          simp only [Act.put, List.setIfInBounds_toArray, List.set_cons_zero, List.set_cons_succ]
          refine wpAnyH_take (i := 14) (v := ?v14) (by simp only [List.getElem?_toArray, List.getElem?_cons_succ, List.getElem?_cons_zero]; rfl) (by kernel_rfl) (by kernel_rfl) (by kernel_rfl) (fun _ _ _ h => h) (Or.inl ⟨by rfl, ?h14⟩) hHeld ?r14
          case h14 => intro w hSw; (try dsimp only at hSw); go_simp; with_reducible rfl
          simp only [Act.put, List.setIfInBounds_toArray, List.set_cons_zero, List.set_cons_succ]
          refine wpAnyH_done (by kernel_rfl) ?_ _
          show Oper.wp _ _ _ _ _ _
          go_simp
          refine NoPanic.normal ?_
          clear z1 z2 z3 z4
          have hput : ∃ vs2, EK w1 (w8.setCell ⟨w1.heap.size + 1, q, none⟩ (.slice (some ⟨g3, 0, none⟩) (rt[q].length + 1) cap)) (firstTo gE ss (k + 1)) vs2 (rt.set q (rt[q] ++ [(k, a.wt)])) := by
            have h8 : EK w1 (w7.alloc (.cells #[.int .i64 k, .int .i64 a.wt] 150)).drew (firstTo gE ss (k + 1)) vs' rt := HB7.out.keep (by repeat' (first | exact Below.refl _ _ | assumption | refine Below.drew ?_ | refine Below.alloc ?_ (by first | omega | (simp; done) | (simp; omega)) _ | refine Below.setCell ?_ (by first | omega | (simp; done) | (simp; omega)) _))
            refine ⟨_, h8.rowApp q hqr (k, a.wt) rfl (by rw [HV3.out]; exact hg8) ho8 (fun b hb => ?_)⟩
            rw [HV3.out]
            simp only [Value.ownBlock, Option.some.injEq] at hb
            subst hb
            exact hat8.imp id (fun h => by omega)
          have HPUT := Lib.hid hput
          clear hput
          go_wp2_with fail
          go_roundw
          case rel =>
            obtain ⟨vs2, h2⟩ := HPUT.out
            exact ⟨t + 1, vs2, by omega, by go_num, by rw [HSN.out]; exact h2⟩
          case measure => simp [intOf]; omega
        · have hte : s.arcs.take t = s.arcs := List.take_of_length_le (by omega)
          rw [hte, ← HPS.out] at hB
          have HBn := Lib.hid hB
          clear hB hte HBt
          go_wp2_with fail
          go_roundw
          case rel => exact ⟨k + 1, vs', by omega, by go_num, HBn.out⟩
          case measure => simp [intOf]; omega
    · have hke : k = ss.length := by omega
      rw [hke, ← HEI.out, firstTo_all] at hB
      have H1 := Lib.hid hB
      have hM := M1.out.below hB.bel l1
      have hEl : E.length = ss.length := HOK.out.el
      have hE2 := Lib.hid (fun l (hl : l ∈ E) => (by
        obtain ⟨q, hq, rfl⟩ := List.getElem_of_mem hl
        have h1 := addEs_row ss.length (pairsTo fE ss ss.length) q
        rw [← HEI.out, pairsTo_len _ _ _ (Nat.le_refl _), List.take_length] at h1
        have : E.getD q [] = E[q] := by simp [List.getD_eq_getElem?_getD, hq]
        rw [this] at h1
        unfold arcsOf at *
        omega : l.length ≤ 1000))
      have HEL := Lib.hid hEl
      have bw2 : Below w.heap.size w wr := b1.trans (hB.bel.mono b1.size)
      have H2 := H1
      have hfi : first = ss.map gE := HFI.out
      rw [← hfi] at H2
      have HFR := Lib.hid (HOK.out.fl)
      clear hB HB hfi hEl hM
      go_wp2_with fail
      refine (far_any _ ss.length (some ⟨w1.heap.size, 0, none⟩) (some ⟨w1.heap.size + 1, 0, none⟩) ss.length ss.length first E HOK.out (by omega) hE2.out (H2.out.rd HFR.out) H2.out.edges HW.out).mono ?_
      rintro e w5 ⟨d, rfl, hd, hdl, hdist, b5⟩
      have HD := Lib.hid hd; have HDL := Lib.hid hdl; have HDI := Lib.hid hdist
      have hs5 := bw2.size
      have b6 := bw2.trans (b5.mono hs5)
      clear hd hdl hdist b5
      go_wp2_with fail
      go_ret2
      exact ⟨_, rfl, ⟨_, d, rfl, HD.out, hs5, HDL.out, HDI.out⟩, b6⟩
end Go.Proofs.Ytikkmoleneioeaa
