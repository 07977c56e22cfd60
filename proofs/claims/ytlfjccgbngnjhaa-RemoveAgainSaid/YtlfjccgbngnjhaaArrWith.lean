/- arrange.with; Sorted, ByOut. -/
import Derived.Test.YtlfjccgbngnjhaaArrSort
import Derived.Test.YtlfjccgbngnjhaaArrPlain
import Derived.Test.YtlfjccgbngnjhaaTurn
import Derived.Deep.RegionLaw
namespace Go.Proofs.Ytlfjccgbngnjhaa
open Go.RowKit

theorem arcs_rd {w : World} {A : Option Addr} {l : List ArcL} (h : ArcsAt w A l) : Rd w A l.length 4 (arcsCells l) := by
  refine ⟨arcsCells_len l, h.rdy, fun j hj => ?_⟩
  have hjl : j < l.length * 4 := by rwa [arcsCells_len] at hj
  have hi : j / 4 < l.length := by omega
  have e := flatMap_at arcCells 4 (fun _ => rfl) l (j / 4) hi (j % 4) (by omega)
  rw [show j / 4 * 4 + j % 4 = j by omega] at e
  have e2 := e.symm.trans (List.getElem?_eq_getElem hj)
  have c0 := h.c0 _ hi; have c1 := h.c1 _ hi; have c2 := h.c2 _ hi; have c3 := h.c3 _ hi
  generalize (arcsCells l)[j]'hj = u at *
  have hm : j % 4 = 0 ∨ j % 4 = 1 ∨ j % 4 = 2 ∨ j % 4 = 3 := by omega
  rcases hm with hm | hm | hm | hm <;> rw [hm] at e2 <;> simp [arcCells] at e2 <;> subst e2
  · rw [show ofs A + j = ofs A + j / 4 * 4 by omega]; exact c0
  · rw [show ofs A + j = ofs A + j / 4 * 4 + 1 by omega]; exact c1
  · rw [show ofs A + j = ofs A + j / 4 * 4 + 2 by omega]; exact c2
  · rw [show ofs A + j = ofs A + j / 4 * 4 + 3 by omega]; exact c3
theorem arcsCells_one (l : List ArcL) : ∀ u ∈ arcsCells l, u.oneCell' = true := by
  intro u hu
  obtain ⟨a, _, ha⟩ := List.mem_flatMap.1 hu
  simp [arcCells] at ha
  rcases ha with rfl | rfl | rfl | rfl <;> rfl
theorem own_made (w : World) (e : TypeId) (B : Nat) (hB : B ≤ w.heap.size) (size : Nat) : (w.alloc (.cells #[] e)).ownsRow B e size (.slice (some ⟨w.heap.size, 0, none⟩) 0 0) 0 [] :=
  ⟨by simp, .inr ⟨w.heap.size, 0, #[], rfl, hB, heap_alloc_new w _, Nat.le_refl _, Nat.zero_le _, by simp, by simp⟩⟩

set_option maxRecDepth 100000 in
set_option maxHeartbeats 1000000 in
theorem clone_any (A : Option Addr) (l : List ArcL) (c B : Nat) (W : World) (h : ArcsAt W A l) (hB : B ≤ W.heap.size) (hl : l.length ≤ 400) :
    Calls Try.prog 40 #[.slice A l.length c] W fun e w' => ∃ v', e = .returned v' ∧ OwnArcs w' B v' l ∧ Below B W w' := by
  have q22 : ∀ (w : World) (a : Option Addr) (n c n' c' : Nat), (binOp .eql 37 (.slice a n c) (.slice none n' c')).run Try.prog w = .ok (.bool a.isNone) w := fun w a n c n' c' => Lib.run_eql_slice_nil w _ _ a n c n' c' Try.underlying37
  have HR := Lib.hid (arcs_rd h)
  have H1 := Lib.hid (arcsCells_one l)
  have HR0 := Lib.hid h.rdy
  cases A with
  | none =>
    have e : l = [] := List.eq_nil_of_length_eq_zero (by
      rcases Nat.eq_zero_or_pos l.length with h0 | h0
      · exact h0
      · have := h.rdy h0; cases this)
    subst e
    clear h
    go_enter Try.func40, Try.ntmps40
    go_wp2
    go_ret
    exact ⟨_, rfl, ⟨rfl, .inl ⟨rfl, rfl⟩⟩, Below.refl _ _⟩
  | some a =>
    clear h
    have HLN : Hid (∀ W' v', W'.ownsRow W.heap.size 42 4 v' (0 + l.length) ([] ++ arcsCells l) → OwnArcs W' B v' l) := Lib.hid fun W' v' ho => by
      rw [Nat.zero_add, List.nil_append] at ho; exact OwnArcs.mono (show OwnArcs W' W.heap.size v' l from ho) hB
    generalize hn : l.length = n at *
    have HN := Lib.hid hn
    generalize hcs : arcsCells l = cs at *
    clear hcs
    go_enter Try.func40, Try.ntmps40
    go_wp2_with (at_builtin; refine wpList_appR _ rfl _ _ rfl eltArc W.heap.size _ 0 [] rfl (own_made W _ _ (Nat.le_refl _) _) (some a) n c cs rfl (HR.out.below ((Below.refl _ _).alloc (Nat.le_refl _) _) rfl) H1.out (by omega) (by omega) (by simp) ?_; intro v' w' ho hg hb)
    go_ret
    exact ⟨_, rfl, HLN.out _ _ ho, ((Below.refl _ _).alloc hB _).grown hg (by simp; omega) (by intro k hk; have hk2 : some W.heap.size = some k := hk; injection hk2 with hk3; omega)⟩

set_option maxRecDepth 100000 in
set_option maxHeartbeats 4000000 in
theorem with_any (fid : Nat) (F : List ArcL → List ArcL) (G : List ArcL → Prop) (hC : ∀ (x : Array Value) (W : World), (callFunc fid x).run Try.prog W = .ok (.enter fid x) W) (hF : ∀ (x : Value) (l : List ArcL) (B : Nat) (W : World), OwnArcs W B x l → G l → l.length ≤ 400 → B ≤ W.heap.size → Calls Try.prog fid #[x] W fun e w' => ∃ x', e = .returned x' ∧ OwnArcs w' B x' (F l) ∧ Below B W w') (v : Value) (m : MachL) (w : World) (hm : MachAt w v m) (hv : Valid m) (hG : ∀ s ∈ m.states, G s.arcs) :
    Calls Try.prog 20 #[v, .func (.func fid) #[] #[]] w fun e w' => ∃ mv, e = .returned (.tuple #[mv, .int .i64 0]) ∧ OwnMach w' w.heap.size mv (arrM F m) ∧ Below w.heap.size w w' := by
  have CH := Lib.hid (fun W hb => Check_ok v m W (hm.below hb) hv)
  have HF := Lib.hid hF; clear hF
  have HG := Lib.hid hG; clear hG
  obtain ⟨A, c, rfl, hS⟩ := hm
  have hsz := hv.size
  have har := hv.arcs
  have HS := Lib.hid hS
  have HL := Lib.hid (arcsOf_le m.states)
  have HT := Lib.hid (arcsOf_take m.states)
  have rd := hS.rdy
  have hE : arrM F m = ⟨m.start, m.states.map fun s => ⟨s.final, F s.arcs⟩⟩ := rfl
  have HE := Lib.hid hE
  have HMS := Lib.hid (map_snoc (fun s : StateL => (⟨s.final, F s.arcs⟩ : StateL)) m.states)
  clear hS hv hE
  generalize m.states = ss at *
  generalize m.start = st at *
  go_enter Try.func20, Try.ntmps20
  go_wp2_with fail
  refine (CH.out _ (by repeat' (first | exact Below.refl _ _ | assumption | refine Below.drew ?_ | refine Below.alloc ?_ (by first | omega | (simp; done) | (simp; omega)) _ | refine Below.setCell ?_ (by first | omega | (simp; done) | (simp; omega)) _))).mono ?_; rintro e w1 ⟨rfl, bel⟩; obtain ⟨c1, f1⟩ := bcell bel; have z1 := bel.size; simp at z1; (try have y0 : w.heap.size < w1.heap.size := by omega); (try have y1 : w.heap.size + 1 < w1.heap.size := by omega); (try have y2 : w.heap.size + 1 + 1 < w1.heap.size := by omega); (try have y3 : w.heap.size + 1 + 1 + 1 < w1.heap.size := by omega); (try have y4 : w.heap.size + 1 + 1 + 1 + 1 < w1.heap.size := by omega); (try have y5 : w.heap.size + 1 + 1 + 1 + 1 + 1 < w1.heap.size := by omega); (try have y6 : w.heap.size + 1 + 1 + 1 + 1 + 1 + 1 < w1.heap.size := by omega)
  go_wp2_with fail
  have r0 : (w1.alloc (.cells #[.int .i64 st, .slice none 0 0] 27)).cell? ⟨w.heap.size + 1, 0, none⟩ = some (.int .i64 0) := by simp [go_sem, *]
  have r1 : (w1.alloc (.cells #[.int .i64 st, .slice none 0 0] 27)).cell? ⟨w.heap.size + 1, 1, none⟩ = some (.slice none 0 0) := by simp [go_sem, *]
  have r2 : (w1.alloc (.cells #[.int .i64 st, .slice none 0 0] 27)).frozen? ⟨w.heap.size + 1, 0, none⟩ = false := by simp [go_sem, *]
  have r3 : (w1.alloc (.cells #[.int .i64 st, .slice none 0 0] 27)).frozen? ⟨w.heap.size + 1, 1, none⟩ = false := by simp [go_sem, *]
  have M0 : MB (w1.alloc (.cells #[.int .i64 st, .slice none 0 0] 27)) (w1.alloc (.cells #[.int .i64 st, .slice none 0 0] 27)) w1.heap.size st (.slice none 0 0) [] [] := MB.start (by simp [go_sem]) (by simp [go_sem]) (by simp [go_sem]) (by simp [go_sem])
  have bl : Below w.heap.size w (w1.alloc (.cells #[.int .i64 st, .slice none 0 0] 27)) := (by repeat' (first | exact Below.refl _ _ | assumption | refine Below.step ?_ bel | refine Below.drew ?_ | refine Below.alloc ?_ (by first | omega | (simp; done) | (simp; omega)) _ | refine Below.setCell ?_ (by first | omega | (simp; done) | (simp; omega)) _))
  have hgr : w.heap.size + 1 < w1.heap.size := y1
  clear c1 f1 y0 y1 z1 bel CH
  generalize w1.alloc (.cells #[.int .i64 st, .slice none 0 0] 27) = wl at *
  generalize w1.heap.size = g at *
  go_loopw [22] (fun i wr => ∃ (k : Nat) (sv : Value) (vs : List Value), k ≤ ss.length ∧ i = .int .i64 k ∧ MB wl wr g st sv vs ((ss.take k).map fun s => ⟨s.final, F s.arcs⟩)) (fun i _ => ss.length - (intOf i).toNat)
  case atStart => exact ⟨0, _, _, by omega, rfl, M0⟩
  case round =>
    obtain ⟨k, sv, vs, hk, rfl, hM⟩ := hrel
    have HM := Lib.hid hM
    have bw := hM.below bl (by omega)
    have hls : ((ss.take k).map fun s : StateL => (⟨s.final, F s.arcs⟩ : StateL)).length = k := by simp; omega
    by_cases hlt : k < ss.length
    · have hSr := HS.out.below bw (Nat.le_refl _)
      have d0 := hSr.c0 k hlt
      obtain ⟨A', c', d1, hA'⟩ := hSr.c1 k hlt
      have hms := HMS.out k hlt
      have ht := HT.out k hlt
      have hle := HL.out (k + 1)
      have hgs := HG.out ss[k] (List.getElem_mem hlt)
      generalize ss[k] = s at *
      have q2 : s.arcs.length ≤ 400 := by omega
      have HA := Lib.hid hA'
      have HMSK := Lib.hid hms
      have rdA := hA'.rdy
      clear hSr hA' ht hle hms hM
      have lA : blk A < wr.heap.size := World.block_lt_of_cell? _ _ d0
      obtain ⟨wo, rfl⟩ : ∃ wo : World, wo = wr := ⟨_, rfl⟩
      have HGS := Lib.hid hgs
      clear hgs
      go_upto_block 1 with fail
      go_cut [] (fun wx => ∃ sv' vs', MB wl wx g st sv' vs' ((ss.take (k + 1)).map fun s => ⟨s.final, F s.arcs⟩))
      case first =>
        obtain ⟨A8, c8, hsv, -, -⟩ := HM.out.form
        rw [hls] at hsv
        subst hsv
        go_upto_block 3 with fail
        have cx0 : (wo.alloc (.cells #[.int .i64 s.final, .slice A' s.arcs.length c'] 39)).cell? ⟨wo.heap.size, 0, none⟩ = some (.int .i64 s.final) := by simp [go_sem]
        have cx1 : (wo.alloc (.cells #[.int .i64 s.final, .slice A' s.arcs.length c'] 39)).cell? ⟨wo.heap.size, 1, none⟩ = some (.slice A' s.arcs.length c') := by simp [go_sem]
        have b2 : Below wo.heap.size wo (wo.alloc (.cells #[.int .i64 s.final, .slice A' s.arcs.length c'] 39)) := (by repeat' (first | exact Below.refl _ _ | assumption | refine Below.drew ?_ | refine Below.alloc ?_ (by first | omega | (simp; done) | (simp; omega)) _ | refine Below.setCell ?_ (by first | omega | (simp; done) | (simp; omega)) _))
        have hM2 := HM.out.keep b2
        have bwb := hM2.below bl (by omega)
        have HM2 := Lib.hid hM2
        have z1 := hM2.m1; have z2 := hM2.f1; have z3 := hM2.lt; have zs := hM2.grown.size
        have hrb : some g ≠ (Value.slice A8 k c8).ownBlock := fun e => own_base hM2.own.row hM2.gB e.symm
        have r1 : some wo.heap.size ≠ (Value.slice A8 k c8).ownBlock := fun e => by
          have := (HM.out.own.row.lt _ e.symm).2; omega
        have HAB := Lib.hid (HA.out.below b2 (Nat.le_refl _))
        clear hM2
        generalize (wo.alloc (.cells #[.int .i64 s.final, .slice A' s.arcs.length c'] 39)) = wb at *
        generalize wo.heap.size = G at *
        have HCL := Lib.hid (fun W (h : Below wb.heap.size wb W) => clone_any A' s.arcs c' wb.heap.size W (HAB.out.below h (Nat.le_refl _)) h.size q2)
        have HFF := Lib.hid (fun W x (ho : OwnArcs W wb.heap.size x s.arcs) (h : Below wb.heap.size wb W) => HF.out x s.arcs wb.heap.size W ho HGS.out q2 h.size)
        have HLX := Lib.hid (fun (p : List ArcL) (W : World) x (ho : OwnArcs W wb.heap.size x p) => own_form ho)
        have HAPP := Lib.hid (fun W (h : Below wb.heap.size wb W) => HM2.out.keep h)
        generalize hFL : F s.arcs = fl at *
        generalize hn' : s.arcs.length = n' at *
        generalize hfin : s.final = fin at *
        have HFL := Lib.hid hFL; have HFIN := Lib.hid hfin
        clear hFL hfin hn'
        have KS : Hid (∀ W, Below wb.heap.size wb W → W.cell? ⟨g, 1, none⟩ = some (.slice A8 k c8) ∧ W.cell? ⟨G, 0, none⟩ = some (.int .i64 fin) ∧ W.cell? ⟨G, 1, none⟩ = some (.slice A' n' c')) := Lib.hid fun W hw => ⟨cellB hw z1, cellB hw cx0, cellB hw cx1⟩
        go_upto_region 8 with fail
        refine wp_region_noPanic ?_
        refine wp_region_last_drew3 (fun W => W.cell? ⟨g, 1, none⟩ = some (.slice A8 k c8) ∧ W.cell? ⟨G, 0, none⟩ = some (.int .i64 fin) ∧ W.cell? ⟨G, 1, none⟩ = some (.slice A' n' c')) (by kernel_rfl) (by simp only [List.back?_toArray, List.getLast?_cons_cons, List.getLast?_singleton]; rfl) (by simp only [List.pop_toArray, List.dropLast_cons_cons, List.dropLast_singleton]; rfl) (by kernel_rfl) ⟨z1, cx0, cx1⟩ (fun hHeld => ?_)
        refine wpAnyH_take (i := 0) (v := ?v0) (by simp only [List.getElem?_toArray, List.getElem?_cons_zero]; rfl) (by kernel_rfl) (by kernel_rfl) (by kernel_rfl) (fun _ _ _ h => h) (Or.inl ⟨by rfl, ?h0⟩) hHeld ?r0
        case h0 => intro w hSw; (try dsimp only at hSw); go_simp; with_reducible rfl
        simp only [Act.put, List.setIfInBounds_toArray, List.set_cons_zero, List.set_cons_succ]
        refine wpAnyH_take (i := 1) (v := ?v1) (by simp only [List.getElem?_toArray, List.getElem?_cons_succ, List.getElem?_cons_zero]; rfl) (by kernel_rfl) (by kernel_rfl) (by kernel_rfl) (fun _ _ _ h => h) (Or.inl ⟨by rfl, ?h1⟩) hHeld ?r1
        case h1 => intro w hSw; (try dsimp only at hSw); go_simp; with_reducible rfl
        simp only [Act.put, List.setIfInBounds_toArray, List.set_cons_zero, List.set_cons_succ]
        refine wpAnyH_take (i := 2) (v := ?v2) (by simp only [List.getElem?_toArray, List.getElem?_cons_succ, List.getElem?_cons_zero]; rfl) (by kernel_rfl) (by kernel_rfl) (by kernel_rfl) (fun _ _ _ h => h) (Or.inl ⟨by rfl, ?h2⟩) hHeld ?r2
        case h2 => intro w hSw; (try dsimp only at hSw); go_simp; with_reducible rfl
        simp only [Act.put, List.setIfInBounds_toArray, List.set_cons_zero, List.set_cons_succ]
        refine wpAnyH_take (i := 3) (v := ?v3) (by simp only [List.getElem?_toArray, List.getElem?_cons_succ, List.getElem?_cons_zero]; rfl) (by kernel_rfl) (by kernel_rfl) (by kernel_rfl) (fun _ _ _ h => h) (Or.inl ⟨by rfl, ?h3⟩) hHeld ?r3
        case h3 => intro w hSw; (try dsimp only at hSw); go_simp; with_reducible rfl
        simp only [Act.put, List.setIfInBounds_toArray, List.set_cons_zero, List.set_cons_succ]
        refine wpAnyH_take (i := 4) (v := ?v4) (by simp only [List.getElem?_toArray, List.getElem?_cons_succ, List.getElem?_cons_zero]; rfl) (by kernel_rfl) (by kernel_rfl) (by kernel_rfl) (fun _ _ _ h => h) (Or.inl ⟨by rfl, ?h4⟩) hHeld ?r4
        case h4 => intro w hSw; (try dsimp only at hSw); go_simp; with_reducible rfl
        simp only [Act.put, List.setIfInBounds_toArray, List.set_cons_zero, List.set_cons_succ]
        refine wpAnyH_take (i := 5) (v := ?v5) (by simp only [List.getElem?_toArray, List.getElem?_cons_succ, List.getElem?_cons_zero]; rfl) (by kernel_rfl) (by kernel_rfl) (by kernel_rfl) (fun _ _ _ h => h) (Or.inl ⟨by rfl, ?h5⟩) hHeld ?r5
        case h5 => intro w hSw; (try dsimp only at hSw); go_simp; with_reducible rfl
        simp only [Act.put, List.setIfInBounds_toArray, List.set_cons_zero, List.set_cons_succ]
        refine wpAnyH_take (i := 6) (v := ?v6) (by simp only [List.getElem?_toArray, List.getElem?_cons_succ, List.getElem?_cons_zero]; rfl) (by kernel_rfl) (by kernel_rfl) (by kernel_rfl) (fun _ _ _ h => h) (Or.inl ⟨by rfl, ?h6⟩) hHeld ?r6
        case h6 => intro w hSw; (try dsimp only at hSw); go_simp; with_reducible rfl
        simp only [Act.put, List.setIfInBounds_toArray, List.set_cons_zero, List.set_cons_succ]
        refine wpAnyH_ready (rs := [7]) (by kernel_rfl) (by simp) (AllReadyH.cons (by simp only [List.getElem?_toArray, List.getElem?_cons_succ, List.getElem?_cons_zero]; rfl) (fun K hK => ?s9) AllReadyH.nil)
        go_simp
        refine (HCL.out _ (Below.refl _ _).drew).mono ?_; rintro e wc ⟨x1, rfl, o1, bc⟩
        go_wp2_with fail
        have hb1 : Below wb.heap.size wb wc := (Below.refl _ _).drew.trans bc
        refine hK.out _ _ (KS.out _ hb1) (fun hHeld => ?_)
        clear hK K
        refine wpAnyH_ready (rs := [8]) (by kernel_rfl) (by simp) (AllReadyH.cons (by simp only [List.getElem?_toArray, List.getElem?_cons_succ, List.getElem?_cons_zero]; rfl) (fun K hK => ?s10) AllReadyH.nil)
        go_simp
        refine (HFF.out _ _ o1 hb1).mono ?_; rintro e wn ⟨x2, rfl, o2, bn⟩
        obtain ⟨A9, c9, rfl, -, -⟩ := HLX.out _ _ _ o2
        generalize hm9 : fl.length = m9 at *
        have HM9 := Lib.hid hm9
        clear hm9
        go_wp2_with fail
        have hb2 : Below wb.heap.size wb wn := hb1.trans bn
        refine hK.out _ _ (KS.out _ hb2) (fun hHeld => ?_)
        clear hK K
        (try simp only [Act.put, List.setIfInBounds_toArray, List.set_cons_zero, List.set_cons_succ])
        refine wpAnyH_take (i := 9) (v := ?v9) (by simp only [List.getElem?_toArray, List.getElem?_cons_succ, List.getElem?_cons_zero]; rfl) (by kernel_rfl) (by kernel_rfl) (by kernel_rfl) (fun _ _ _ h => h) (Or.inl ⟨by rfl, ?h9⟩) hHeld ?r9
        case h9 => intro w hSw; (try dsimp only at hSw); go_simp; with_reducible rfl
        simp only [Act.put, List.setIfInBounds_toArray, List.set_cons_zero, List.set_cons_succ]
        refine wpAnyH_ready (rs := [10]) (by kernel_rfl) (by simp) (AllReadyH.cons (by simp only [List.getElem?_toArray, List.getElem?_cons_succ, List.getElem?_cons_zero]; rfl) (fun K hK => ?s11) AllReadyH.nil)
        go_simp
        refine hK.out _ _ (KS.out _ (hb2.alloc hb2.size _)) (fun hHeld => ?_)
        clear hK K
        (try simp only [Act.put, List.setIfInBounds_toArray, List.set_cons_zero, List.set_cons_succ])
        refine wpAnyH_ready (rs := [11]) (by kernel_rfl) (by simp) (AllReadyH.cons (by simp only [List.getElem?_toArray, List.getElem?_cons_succ, List.getElem?_cons_zero]; rfl) (fun K hK => ?s12) AllReadyH.nil)
        have HMN := Lib.hid (HAPP.out _ (hb2.alloc hb2.size (.cells #[.int .i64 fin, .slice A9 m9 c9] 39)))
        have hrow := HMN.out.own.row
        rw [hls] at hrow
        refine step_app1 (by rfl) _ _ (by rfl) eltState wl.heap.size (.slice A8 k c8) k _ (by rfl) hrow wn.heap.size #[.int .i64 fin, .slice A9 m9 c9] (heap_alloc_new wn _) (by rfl) (by rfl) (by simp [Value.oneCell']) (by omega) (by omega) (by have := HMN.out.grown.size; exact this) ?_; intro g3 cap w8 ho8 hg8 hat8 hlt8; have z8 := hg8.cell hHeld.1 hrb; have z9 := hg8.cell hHeld.2.1 r1; have z10 := hg8.cell hHeld.2.2 r1
        refine hK.out _ _ ⟨z8, z9, z10⟩ (fun hHeld => ?_)
        clear hK K
        (try simp only [Act.put, List.setIfInBounds_toArray, List.set_cons_zero, List.set_cons_succ])
        refine wpAnyH_take (i := 12) (v := ?v12) (by simp only [List.getElem?_toArray, List.getElem?_cons_succ, List.getElem?_cons_zero]; rfl) (by kernel_rfl) (by kernel_rfl) (by kernel_rfl) (fun _ _ _ h => h) (Or.inl ⟨by rfl, ?h12⟩) hHeld ?r12
        case h12 => intro w hSw; (try dsimp only at hSw); go_simp; with_reducible rfl
        simp only [Act.put, List.setIfInBounds_toArray, List.set_cons_zero, List.set_cons_succ]
        refine wpAnyH_done (by kernel_rfl) ?_ _
        show Oper.wp _ _ _ _ _ _
        obtain ⟨y1, y2, y3⟩ := HMN.out.far hg8
        have HO := Lib.hid (o2.alloc (.cells #[.int .i64 fin, .slice A9 m9 c9] 39))
        go_simp
        refine NoPanic.normal ?_
        have hz := HMN.out.app ⟨fin, fl⟩ (OwnArcs.mono (l := fl) HO.out zs) (by rw [hls]) hg8 ho8
        rw [← HMSK.out] at hz
        have HZ := Lib.hid hz
        clear hz
        go_wp2_with fail
        go_meet
        case rel => exact ⟨_, _, HZ.out⟩
      case rest =>
        obtain ⟨sv', vs', hI'⟩ := hcut
        have HI' := Lib.hid hI'
        clear hI'
        go_wp2_with fail
        go_roundw
        case rel => exact ⟨k + 1, sv', vs', by omega, by go_num, HI'.out⟩
        case measure => simp [intOf]; omega
    · have hke : ss.take k = ss := List.take_of_length_le (by omega)
      rw [hke] at HM
      obtain ⟨A', c', rfl, -, -⟩ := HM.out.form
      have r0' := grown_cell HM.out.grown (by omega) r0
      have r1' := grown_cell HM.out.grown (by omega) r1
      have r2' := grown_froz HM.out.grown (by omega) r0 r2
      have r3' := grown_froz HM.out.grown (by omega) r1 r3
      have z0 := HM.out.m0; have z1 := HM.out.m1
      have hgr2 := HM.out.lt
      have hne : g ≠ w.heap.size + 1 := by omega
      have hne2 : w.heap.size + 1 ≠ g := by omega
      clear hM hke hls r0 r1 r2 r3
      generalize hsl : (List.map (fun s : StateL => (⟨s.final, F s.arcs⟩ : StateL)) ss).length = n' at *
      have HSL := Lib.hid hsl
      clear hsl
      go_wp2_with fail
      refine bodyPost_ret (v := .tuple #[.agg #[.int .i64 st, .slice A' n' c'], .int .i64 0]) (by simp [results, Try.results20, go_sem, *]) rfl ⟨_, rfl, ?_, ?_⟩
      · rw [HE.out]
        have hgB := HM.out.gB
        exact ⟨_, rfl, vs, ((HM.out.own.setCell (a := ⟨w.heap.size + 1, 0, none⟩) (show w.heap.size + 1 < wl.heap.size by omega) _).setCell (a := ⟨w.heap.size + 1, 1, none⟩) (show w.heap.size + 1 < wl.heap.size by omega) _).mono bl.size⟩
      · exact (bw.setCell (by simp) _).setCell (by simp) _
end Go.Proofs.Ytlfjccgbngnjhaa
