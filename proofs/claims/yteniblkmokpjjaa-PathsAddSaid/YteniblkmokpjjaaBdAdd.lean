/- rational's builder: add. -/
import Derived.Test.YteniblkmokpjjaaBdHop
import Derived.Test.YteniblkmokpjjaaRegionLast3
import Derived.Deep.DeepCutAuto
import Derived.Deep.CutBlock
import Derived.IntWalk
namespace Go.Proofs.Yteniblkmokpjjaa
open Go.RowKit

def movA (d : Int) (a : ArcL) : ArcL := ⟨a.inn, a.out, a.wt, a.to + d⟩
def movS (d : Int) (s : StateL) : StateL := ⟨s.final, s.arcs.map (movA d)⟩
theorem map_snoc' {α β : Type} (f : α → β) (l : List α) (k : Nat) (h : k < l.length) : (l.take (k + 1)).map f = (l.take k).map f ++ [f l[k]] := by
  rw [List.take_succ_eq_append_getElem h, List.map_append]; rfl

set_option maxRecDepth 100000 in
set_option maxHeartbeats 8000000 in
theorem addm_any (b : Nat) (W : World) (st : Int) (sv : Value) (vs : List Value) (ss : List StateL) (h : BD b W st sv vs ss) (ms : Int) (A : Option Addr) (c : Nat) (s0 : List StateL) (hm : ∀ W', Below b W W' → StatesAt W' A s0)
    (hn : ss.length + s0.length ≤ 1000) (hl : ∀ s ∈ s0, s.arcs.length ≤ 1000) (hto : ∀ s ∈ s0, ∀ a ∈ s.arcs, 0 ≤ a.to ∧ a.to ≤ 1000) :
    Calls Try.prog 43 #[.pointer (some ⟨b, 0, none⟩), .agg #[.int .i64 ms, .slice A s0.length c]] W fun e w' => e = .returned (.int .i64 ss.length) ∧ ∃ sv' vs', BD b w' st sv' vs' (ss ++ s0.map (movS ss.length)) ∧ BF b W w' := by
  have H := Lib.hid h; have HMM := Lib.hid hm; have HL := Lib.hid hl; have HTO := Lib.hid hto
  have rd := (hm W (Below.refl _ _)).rdy
  have HSN := Lib.hid (map_snoc' (movS ss.length) s0)
  obtain ⟨A1, c1, rfl, -⟩ := h.form
  have kb := h.box.cell; have lb := h.lt
  clear h hm hl hto
  go_enter Try.func43, Try.ntmps43
  go_wp2_with fail
  have BD0 := H.out.keep (W' := W.alloc (.cells #[.int .i64 ms, .slice A s0.length c] 27)) (by repeat' (first | exact Below.refl _ _ | assumption | refine Below.drew ?_ | refine Below.alloc ?_ (by first | omega | (simp; done) | (simp; omega)) _ | refine Below.setCell ?_ (by first | omega | (simp; done) | (simp; omega)) _))
  have BF0 : BF b W (W.alloc (.cells #[.int .i64 ms, .slice A s0.length c] 27)) := BF.below (by repeat' (first | exact Below.refl _ _ | assumption | refine Below.drew ?_ | refine Below.alloc ?_ (by first | omega | (simp; done) | (simp; omega)) _ | refine Below.setCell ?_ (by first | omega | (simp; done) | (simp; omega)) _)) (by omega)
  clear kb
  generalize W.alloc (.cells #[.int .i64 ms, .slice A s0.length c] 27) = wl at *
  generalize hd : ss.length = d at *
  have HD := Lib.hid hd; clear hd
  go_loopw [20] (fun i wr => ∃ (k : Nat) (sv : Value) (vs : List Value), k ≤ s0.length ∧ i = .int .i64 k ∧ BD b wr st sv vs (ss ++ (s0.take k).map (movS d)) ∧ BF b W wr) (fun i _ => s0.length - (intOf i).toNat)
  case atStart => exact ⟨0, _, _, by omega, rfl, by simpa using BD0, BF0⟩
  case round =>
    obtain ⟨k, sv, vs, hk, rfl, hM, hF⟩ := hrel
    have HM := Lib.hid hM; have HF := Lib.hid hF
    have hls : (ss ++ (s0.take k).map (movS d)).length = d + k := by simp [HD.out]; omega
    by_cases hlt : k < s0.length
    · have hSr := HMM.out _ hF.bel
      have d0 := hSr.c0 k hlt
      obtain ⟨A', c', d1, hA'⟩ := hSr.c1 k hlt
      have hA2 : ∀ wx, Below wr.heap.size wr wx → ArcsAt wx A' s0[k].arcs := fun wx hb => hA'.below hb (Nat.le_refl _)
      have hms := HSN.out k hlt
      have q2 := HL.out _ (List.getElem_mem hlt)
      have q3 := HTO.out _ (List.getElem_mem hlt)
      generalize s0[k] = s at *
      have HA := Lib.hid hA2
      have HMSK := Lib.hid hms; have Q3 := Lib.hid q3
      have rdA := hA'.rdy
      have lm := hM.lt
      clear hSr hA' hms hM hF hA2 q3
      have lA : blk A < wr.heap.size := World.block_lt_of_cell? _ _ d0
      obtain ⟨wo, rfl⟩ : ∃ wo : World, wo = wr := ⟨_, rfl⟩
      go_wp2_with fail
      have A0 : AB ((wo.alloc (.cells #[.int .i64 s.final, .slice A' s.arcs.length c'] 46)).alloc (.cells #[.int .i64 s.final, .slice none 0 0] 46)) _ (wo.heap.size + 1) s.final _ [] := AB.start (by simp [go_sem]) (by simp [go_sem]) (by simp [go_sem]) (by simp [go_sem])
      have b2 : Below wo.heap.size wo ((wo.alloc (.cells #[.int .i64 s.final, .slice A' s.arcs.length c'] 46)).alloc (.cells #[.int .i64 s.final, .slice none 0 0] 46)) := (by repeat' (first | exact Below.refl _ _ | assumption | refine Below.drew ?_ | refine Below.alloc ?_ (by first | omega | (simp; done) | (simp; omega)) _ | refine Below.setCell ?_ (by first | omega | (simp; done) | (simp; omega)) _))
      have s2 : wo.heap.size + 2 = ((wo.alloc (.cells #[.int .i64 s.final, .slice A' s.arcs.length c'] 46)).alloc (.cells #[.int .i64 s.final, .slice none 0 0] 46)).heap.size := by simp
      generalize (wo.alloc (.cells #[.int .i64 s.final, .slice A' s.arcs.length c'] 46)).alloc (.cells #[.int .i64 s.final, .slice none 0 0] 46) = w2 at *
      go_loopw [30] (fun i wi => ∃ (t : Nat) (av : Value), t ≤ s.arcs.length ∧ i = .int .i64 t ∧ AB w2 wi (wo.heap.size + 1) s.final av ((s.arcs.take t).map (movA d))) (fun i _ => s.arcs.length - (intOf i).toNat)
      case atStart => exact ⟨0, _, by omega, rfl, A0⟩
      case round =>
        obtain ⟨t, av, ht, rfl, hI⟩ := hrel
        obtain ⟨wi, rfl⟩ : ∃ wi : World, wi = wr := ⟨_, rfl⟩
        have HI := Lib.hid hI
        have bwi := hI.below b2 (by omega)
        have hli : ((s.arcs.take t).map (movA d)).length = t := by simp; omega
        have m1 := hI.lt
        by_cases hlt2 : t < s.arcs.length
        · have hAr := HA.out _ bwi
          have d0 := hAr.c0 t hlt2; have d1 := hAr.c1 t hlt2; have d2 := hAr.c2 t hlt2; have d3 := hAr.c3 t hlt2
          have hsn := map_snoc' (movA d) s.arcs t hlt2
          have hq3 := Q3.out _ (List.getElem_mem hlt2)
          generalize s.arcs[t] = a at *
          obtain ⟨t0, t1⟩ := hq3
          have lA' : blk A' < wi.heap.size := World.block_lt_of_cell? _ _ d0
          have HSN2 := Lib.hid hsn
          have i1 := hI.s1; have i3 := hI.f1
          have hwr : IntKind.i64.wrap (a.to + d) = a.to + d := IntWalk.i64_in _ (by omega)
          have hO := hI.own
          unfold OwnArcs at hO
          rw [hli] at hO
          have HO := Lib.hid hO
          have zg := hI.grown.size
          clear hsn hAr hI hO
          go_upto_region 10 with fail
          have hA5 := HI.out.keep (wx := wi.alloc (.cells #[.int .i64 a.inn, .int .i64 a.out, .int .i64 a.wt, .int .i64 (a.to + d)] 79)) (by repeat' (first | exact Below.refl _ _ | assumption | refine Below.drew ?_ | refine Below.alloc ?_ (by first | omega | (simp; done) | (simp; omega)) _ | refine Below.setCell ?_ (by first | omega | (simp; done) | (simp; omega)) _))
          have HA5 := Lib.hid hA5
          have HO5 := Lib.hid (HO.out.alloc (.cells #[.int .i64 a.inn, .int .i64 a.out, .int .i64 a.wt, .int .i64 (a.to + d)] 79))
          have j1 := hA5.s1; have j2 := hA5.f1; have j3 := hA5.lt; have j4 := hA5.grown.size
          have BA : Blk (wi.alloc (.cells #[.int .i64 a.inn, .int .i64 a.out, .int .i64 a.wt, .int .i64 (a.to + d)] 79)) wi.heap.size _ _ := Blk.new _ _ _
          have kA := BA.cell; have lAb := BA.lt
          clear i1 i3 d0 d1 d2 d3 hA5
          generalize wi.alloc (.cells #[.int .i64 a.inn, .int .i64 a.out, .int .i64 a.wt, .int .i64 (a.to + d)] 79) = w5 at *
          go_wp2_with (at_builtin; refine wpList_app1 rfl _ _ rfl eltArc w2.heap.size av t _ rfl w5 HO5.out #[.int .i64 a.inn, .int .i64 a.out, .int .i64 a.wt, .int .i64 (a.to + d)] rfl w5.heap.size rfl rfl rfl (by simp [Value.oneCell']) (by omega) (by omega) j4 ?_; intro g4 cap w6 hown4 hg4 hat hlt4; obtain ⟨e1, e2, e3⟩ := HA5.out.far hg4)
          have hz := HA5.out.app (movA d a) (k := t + 1) (by rw [hli]) hg4 hown4
          rw [← HSN2.out] at hz
          have HZ := Lib.hid hz
          clear hz hown4 hg4
          go_roundw
          case rel => exact ⟨t + 1, _, by omega, by go_num, HZ.out⟩
          case measure => simp [intOf]; omega
        · have hte : (s.arcs.take t).map (movA d) = s.arcs.map (movA d) := by rw [List.take_of_length_le (by omega)]
          rw [hte] at hI
          have HI2 := Lib.hid hI
          have hB3 := HM.out.keep bwi
          have HB3 := Lib.hid hB3
          obtain ⟨A9, c9, hav, -, -⟩ := hI.form
          obtain ⟨A8, c8, hsv, -, -⟩ := hB3.form
          rw [List.length_map] at hav
          rw [hls] at hsv
          subst hav; subst hsv
          have hrow := hB3.own.row
          rw [hls] at hrow
          have HROW := Lib.hid hrow
          have K1 : Hid (wi.cell? ⟨b, 1, none⟩ = some (.slice A8 (d + k) c8)) := Lib.hid (by simpa using hB3.box.cell 1)
          have K2 := Lib.hid hI.s0; have K3 := Lib.hid hI.s1
          have hrb := hB3.row_ne
          have hbf := hB3.box.froz 1
          have hbb := hB3.lt
          have r1 : some (wo.heap.size + 1) ≠ (Value.slice A8 (d + k) c8).ownBlock := fun e => by
            have := (HM.out.own.row.lt _ e.symm).2; omega
          clear hI hte hB3 hrow HI
          generalize hfin : s.final = fin at *
          have HFIN := Lib.hid hfin; clear hfin
          go_upto_region 12 with fail
          refine wp_region_noPanic ?_
          refine wp_region_last_drew3 (fun w' => w'.cell? ⟨b, 1, none⟩ = some (.slice A8 (d + k) c8) ∧ w'.cell? ⟨wo.heap.size + 1, 0, none⟩ = some (.int .i64 fin) ∧ w'.cell? ⟨wo.heap.size + 1, 1, none⟩ = some (.slice A9 s.arcs.length c9)) (by kernel_rfl) (by simp only [List.back?_toArray, List.getLast?_cons_cons, List.getLast?_singleton]; rfl) (by simp only [List.pop_toArray, List.dropLast_cons_cons, List.dropLast_singleton]; rfl) (by kernel_rfl) ⟨K1.out, K2.out, K3.out⟩ (fun hHeld => ?_)
          refine wpAnyH_take (i := 0) (v := ?v0) (by simp only [List.getElem?_toArray, List.getElem?_cons_zero]; rfl) (by kernel_rfl) (by kernel_rfl) (by kernel_rfl) (fun _ _ _ h => h) (Or.inl ⟨by rfl, ?h0⟩) hHeld ?r0
          case h0 => intro w hSw; (try dsimp only at hSw); go_simp; with_reducible rfl
          simp only [Act.put, List.setIfInBounds_toArray, List.set_cons_zero, List.set_cons_succ]
          refine wpAnyH_take (i := 1) (v := ?v1) (by simp only [List.getElem?_toArray, List.getElem?_cons_succ, List.getElem?_cons_zero]; rfl) (by kernel_rfl) (by kernel_rfl) (by kernel_rfl) (fun _ _ _ h => h) (Or.inl ⟨by rfl, ?h1⟩) hHeld ?r1
          case h1 => intro w hSw; (try dsimp only at hSw); go_simp; with_reducible rfl
          simp only [Act.put, List.setIfInBounds_toArray, List.set_cons_zero, List.set_cons_succ]
          refine wpAnyH_take (i := 2) (v := ?v2) (by simp only [List.getElem?_toArray, List.getElem?_cons_succ, List.getElem?_cons_zero]; rfl) (by kernel_rfl) (by kernel_rfl) (by kernel_rfl) (fun _ _ _ h => h) (Or.inl ⟨by rfl, ?h2⟩) hHeld ?r2
          case h2 => intro w hSw; (try dsimp only at hSw); go_simp; with_reducible rfl
          simp only [Act.put, List.setIfInBounds_toArray, List.set_cons_zero, List.set_cons_succ]
          refine wpAnyH_take (i := 3) (v := ?v3) (by simp only [List.getElem?_toArray, List.getElem?_cons_succ, List.getElem?_cons_zero]; rfl) (by kernel_rfl) (by kernel_rfl) (by kernel_rfl) (fun _ _ _ h => h) (Or.inl ⟨by rfl, ?h3⟩) hHeld ?r3
          case h3 => intro w hSw; (try dsimp only at hSw); go_simp; with_reducible rfl
          simp only [Act.put, List.setIfInBounds_toArray, List.set_cons_zero, List.set_cons_succ]
          refine wpAnyH_take (i := 4) (v := ?v4) (by simp only [List.getElem?_toArray, List.getElem?_cons_succ, List.getElem?_cons_zero]; rfl) (by kernel_rfl) (by kernel_rfl) (by kernel_rfl) (fun _ _ _ h => h) (Or.inl ⟨by rfl, ?h4⟩) hHeld ?r4
          case h4 => intro w hSw; (try dsimp only at hSw); go_simp; with_reducible rfl
          simp only [Act.put, List.setIfInBounds_toArray, List.set_cons_zero, List.set_cons_succ]
          refine wpAnyH_take (i := 5) (v := ?v5) (by simp only [List.getElem?_toArray, List.getElem?_cons_succ, List.getElem?_cons_zero]; rfl) (by kernel_rfl) (by kernel_rfl) (by kernel_rfl) (fun _ _ _ h => h) (Or.inl ⟨by rfl, ?h5⟩) hHeld ?r5
          case h5 => intro w hSw; (try dsimp only at hSw); go_simp; with_reducible rfl
          simp only [Act.put, List.setIfInBounds_toArray, List.set_cons_zero, List.set_cons_succ]
          refine wpAnyH_take (i := 6) (v := ?v6) (by simp only [List.getElem?_toArray, List.getElem?_cons_succ, List.getElem?_cons_zero]; rfl) (by kernel_rfl) (by kernel_rfl) (by kernel_rfl) (fun _ _ _ h => h) (Or.inl ⟨by rfl, ?h6⟩) hHeld ?r6
          case h6 => intro w hSw; (try dsimp only at hSw); go_simp; with_reducible rfl
          simp only [Act.put, List.setIfInBounds_toArray, List.set_cons_zero, List.set_cons_succ]
          refine wpAnyH_ready (rs := [7]) (by kernel_rfl) (by simp) (AllReadyH.cons (by simp only [List.getElem?_toArray, List.getElem?_cons_succ, List.getElem?_cons_zero]; rfl) (fun K hK => ?s9) AllReadyH.nil)
          go_simp
          refine hK.out _ _ ⟨cell_keep (w := wi) (B := wi.heap.size) (by repeat' (first | exact Below.refl _ _ | assumption | refine Below.drew ?_ | refine Below.alloc ?_ (by first | omega | (simp; done) | (simp; omega)) _ | refine Below.setCell ?_ (by first | omega | (simp; done) | (simp; omega)) _)) (Nat.le_refl _) K1.out, cell_keep (w := wi) (B := wi.heap.size) (by repeat' (first | exact Below.refl _ _ | assumption | refine Below.drew ?_ | refine Below.alloc ?_ (by first | omega | (simp; done) | (simp; omega)) _ | refine Below.setCell ?_ (by first | omega | (simp; done) | (simp; omega)) _)) (Nat.le_refl _) K2.out, cell_keep (w := wi) (B := wi.heap.size) (by repeat' (first | exact Below.refl _ _ | assumption | refine Below.drew ?_ | refine Below.alloc ?_ (by first | omega | (simp; done) | (simp; omega)) _ | refine Below.setCell ?_ (by first | omega | (simp; done) | (simp; omega)) _)) (Nat.le_refl _) K3.out⟩ (fun hHeld => ?_)
          clear hK K
          refine wpAnyH_ready (rs := [8]) (by kernel_rfl) (by simp) (AllReadyH.cons (by simp only [List.getElem?_toArray, List.getElem?_cons_succ, List.getElem?_cons_zero]; rfl) (fun K hK => ?s10) AllReadyH.nil)
          refine step_app1 (by rfl) _ _ (by rfl) eltState b (.slice A8 (d + k) c8) _ _ (by rfl) (HROW.out.alloc _) wi.heap.size #[.int .i64 fin, .slice A9 s.arcs.length c9] (heap_alloc_new wi _) (by rfl) (by rfl) (by simp [Value.oneCell']) (by omega) (by omega) (by simp; omega) ?_; intro g3 cap w8 ho8 hg8 hat8 hlt8; have z8 := hg8.cell hHeld.1 (fun e => hrb e.symm); have z9 := hg8.cell hHeld.2.1 r1; have z10 := hg8.cell hHeld.2.2 r1
          refine hK.out _ _ ⟨z8, z9, z10⟩ (fun hHeld => ?_)
          clear hK K
          simp only [Act.put, List.setIfInBounds_toArray, List.set_cons_zero, List.set_cons_succ]
          refine wpAnyH_take (i := 9) (v := ?v9) (by simp only [List.getElem?_toArray, List.getElem?_cons_succ, List.getElem?_cons_zero]; rfl) (by kernel_rfl) (by kernel_rfl) (by kernel_rfl) (fun _ _ _ h => h) (Or.inl ⟨by rfl, ?h9⟩) hHeld ?r9
          case h9 => intro w hSw; (try dsimp only at hSw); go_simp; with_reducible rfl
          simp only [Act.put, List.setIfInBounds_toArray, List.set_cons_zero, List.set_cons_succ]
          refine wpAnyH_take (i := 10) (v := ?v10) (by simp only [List.getElem?_toArray, List.getElem?_cons_succ, List.getElem?_cons_zero]; rfl) (by kernel_rfl) (by kernel_rfl) (by kernel_rfl) (fun _ _ _ h => h) (Or.inl ⟨by rfl, ?h10⟩) hHeld ?r10
          case h10 => intro w hSw; (try dsimp only at hSw); go_simp; with_reducible rfl
          simp only [Act.put, List.setIfInBounds_toArray, List.set_cons_zero, List.set_cons_succ]
          refine wpAnyH_take (i := 11) (v := ?v11) (by simp only [List.getElem?_toArray, List.getElem?_cons_succ, List.getElem?_cons_zero]; rfl) (by kernel_rfl) (by kernel_rfl) (by kernel_rfl) (fun _ _ _ h => h) (Or.inl ⟨by rfl, ?h11⟩) hHeld ?r11
          case h11 => intro w hSw; (try dsimp only at hSw); go_simp; with_reducible rfl
          simp only [Act.put, List.setIfInBounds_toArray, List.set_cons_zero, List.set_cons_succ]
          refine wpAnyH_done (by kernel_rfl) ?_ _
          show Oper.wp _ _ _ _ _ _
          have b7 : Below wi.heap.size wi (wi.alloc (.cells #[.int .i64 fin, .slice A9 s.arcs.length c9] 46)).drew := (by repeat' (first | exact Below.refl _ _ | assumption | refine Below.drew ?_ | refine Below.alloc ?_ (by first | omega | (simp; done) | (simp; omega)) _ | refine Below.setCell ?_ (by first | omega | (simp; done) | (simp; omega)) _))
          have hz1 : w8.frozen? ⟨b, 1, none⟩ = false := by
            rw [World.frozen?_of_block (hg8.block b (by simp; omega) (fun e => hrb e.symm))]
            exact frozB b7 K1.out hbf
          have lg8 := World.block_lt_of_cell? _ _ z8
          go_simp
          refine NoPanic.normal ?_
          have HAV : Hid (OwnArcs (wi.alloc (.cells #[.int .i64 fin, .slice A9 s.arcs.length c9] 46)).drew b (.slice A9 s.arcs.length c9) (movS d s).arcs) := Lib.hid ((HI2.out.own.mono (by omega)).below b7 (Nat.le_refl _))
          have HAP : Hid (∀ i (hi : i < vs.length), Apart vs[i] (.slice A9 s.arcs.length c9)) := Lib.hid (fun i hi k' h1 h2 => by
            have := (HM.out.arcs_lt hi h1).2
            have := (HI2.out.own.lt k' h2).1
            omega)
          have hput := ((HM.out.keep bwi).keep b7).app (movS d s) (av := .slice A9 s.arcs.length c9) (k := d + k + 1) (W' := w8) HAV.out HAP.out (by rw [hls]) hg8 (by unfold movS; simp only; rw [HFIN.out]; exact ho8)
          rw [List.append_assoc, ← HMSK.out] at hput
          have HPUT := Lib.hid hput
          clear z8 z9 z10 hz1 hput
          go_wp2_with fail
          go_roundw
          case rel => exact ⟨k + 1, _, _, by omega, by go_num, HPUT.out.1, (HF.out.trans (BF.below (Below.step bwi b7) (by omega))).trans HPUT.out.2⟩
          case measure => simp [intOf]; omega
    · have hke : s0.take k = s0 := List.take_of_length_le (by omega)
      rw [hke] at hM
      have HM2 := Lib.hid hM
      clear hM hke HM
      go_wp2_with fail
      go_ret
      rw [HD.out]
      exact ⟨rfl, _, _, HM2.out, hF⟩
end Go.Proofs.Yteniblkmokpjjaa
