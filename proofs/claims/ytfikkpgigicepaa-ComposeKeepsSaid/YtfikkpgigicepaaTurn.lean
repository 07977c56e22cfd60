/- turn.each, Invert, Reads, Writes. -/
/- Invert, Reads, Writes; alike. -/
import Derived.Test.YtfikkpgigicepaaMade
import Derived.Test.YtfikkpgigicepaaCheck
import Derived.Test.YtfikkpgigicepaaBuild
import Derived.Deep.RegionLaw
namespace Go.Proofs.Ytfikkpgigicepaa
open Go.RowKit

def invA (a : ArcL) : ArcL := ⟨a.out, a.inn, a.wt, a.to⟩
def readA (a : ArcL) : ArcL := ⟨a.inn, a.inn, a.wt, a.to⟩
def writeA (a : ArcL) : ArcL := ⟨a.out, a.out, a.wt, a.to⟩
abbrev arcV (a : ArcL) : Value := .agg #[.int .i64 a.inn, .int .i64 a.out, .int .i64 a.wt, .int .i64 a.to]

theorem inv_any (a : ArcL) (w : World) : Calls Try.prog 44 #[arcV a] w fun e w' => e = .returned (arcV (invA a)) ∧ Below w.heap.size w w' := by
  go_enter Try.func44, Try.ntmps44
  go_wp2
  exact bodyPost_ret (v := arcV (invA a)) (by simp [results, Try.results44, go_sem, invA]) rfl ⟨rfl, (by repeat' (first | exact Below.refl _ _ | assumption | refine Below.drew ?_ | refine Below.alloc ?_ (by first | omega | (simp; done) | (simp; omega)) _ | refine Below.setCell ?_ (by first | omega | (simp; done) | (simp; omega)) _))⟩
def eachM (F : ArcL → ArcL) (m : MachL) : MachL := ⟨m.start, m.states.map fun s => ⟨s.final, s.arcs.map F⟩⟩

theorem map_snoc {α β : Type} (f : α → β) (l : List α) (k : Nat) (h : k < l.length) : (l.take (k + 1)).map f = (l.take k).map f ++ [f l[k]] := by
  rw [List.take_succ_eq_append_getElem h, List.map_append]; rfl

set_option maxRecDepth 100000 in
set_option maxHeartbeats 4000000 in
theorem each_any (fid : Nat) (F : ArcL → ArcL) (hC : ∀ (x : Array Value) (W : World), (callFunc fid x).run Try.prog W = .ok (.enter fid x) W) (hF : ∀ a W, Calls Try.prog fid #[arcV a] W fun e w' => e = .returned (arcV (F a)) ∧ Below W.heap.size W w') (v : Value) (m : MachL) (w : World) (hm : MachAt w v m) (hv : Valid m) :
    Calls Try.prog 43 #[v, .func (.func fid) #[] #[]] w fun e w' => ∃ mv, e = .returned (.tuple #[mv, .int .i64 0]) ∧ OwnMach w' w.heap.size mv (eachM F m) ∧ Below w.heap.size w w' := by
  have CH := Lib.hid (fun W hb => Check_ok v m W (hm.below hb) hv)
  have HF := Lib.hid hF; clear hF
  obtain ⟨A, c, rfl, hS⟩ := hm
  have hsz := hv.size
  have har := hv.arcs
  have HS := Lib.hid hS
  have HL := Lib.hid (arcsOf_le m.states)
  have HT := Lib.hid (arcsOf_take m.states)
  have rd := hS.rdy
  have hE : eachM F m = ⟨m.start, m.states.map fun s => ⟨s.final, s.arcs.map F⟩⟩ := rfl
  have HE := Lib.hid hE
  have HMS := Lib.hid (map_snoc (fun s : StateL => (⟨s.final, s.arcs.map F⟩ : StateL)) m.states)
  clear hS hv hE
  generalize m.states = ss at *
  generalize m.start = st at *
  go_enter Try.func43, Try.ntmps43
  go_wp2_with fail
  refine (CH.out _ (by repeat' (first | exact Below.refl _ _ | assumption | refine Below.drew ?_ | refine Below.alloc ?_ (by first | omega | (simp; done) | (simp; omega)) _ | refine Below.setCell ?_ (by first | omega | (simp; done) | (simp; omega)) _))).mono ?_; rintro e w1 ⟨rfl, bel⟩; obtain ⟨c1, f1⟩ := bcell bel; have z1 := bel.size; simp at z1; (try have y0 : w.heap.size < w1.heap.size := by omega); (try have y1 : w.heap.size + 1 < w1.heap.size := by omega); (try have y2 : w.heap.size + 1 + 1 < w1.heap.size := by omega); (try have y3 : w.heap.size + 1 + 1 + 1 < w1.heap.size := by omega); (try have y4 : w.heap.size + 1 + 1 + 1 + 1 < w1.heap.size := by omega); (try have y5 : w.heap.size + 1 + 1 + 1 + 1 + 1 < w1.heap.size := by omega); (try have y6 : w.heap.size + 1 + 1 + 1 + 1 + 1 + 1 < w1.heap.size := by omega)
  go_wp2_with fail
  have r0 : (w1.alloc (.cells #[.int .i64 st, .slice none 0 0] 28)).cell? ⟨w.heap.size + 1, 0, none⟩ = some (.int .i64 0) := by simp [go_sem, *]
  have r1 : (w1.alloc (.cells #[.int .i64 st, .slice none 0 0] 28)).cell? ⟨w.heap.size + 1, 1, none⟩ = some (.slice none 0 0) := by simp [go_sem, *]
  have r2 : (w1.alloc (.cells #[.int .i64 st, .slice none 0 0] 28)).frozen? ⟨w.heap.size + 1, 0, none⟩ = false := by simp [go_sem, *]
  have r3 : (w1.alloc (.cells #[.int .i64 st, .slice none 0 0] 28)).frozen? ⟨w.heap.size + 1, 1, none⟩ = false := by simp [go_sem, *]
  have M0 : MB (w1.alloc (.cells #[.int .i64 st, .slice none 0 0] 28)) (w1.alloc (.cells #[.int .i64 st, .slice none 0 0] 28)) w1.heap.size st (.slice none 0 0) [] [] := MB.start (by simp [go_sem]) (by simp [go_sem]) (by simp [go_sem]) (by simp [go_sem])
  have bl : Below w.heap.size w (w1.alloc (.cells #[.int .i64 st, .slice none 0 0] 28)) := (by repeat' (first | exact Below.refl _ _ | assumption | refine Below.step ?_ bel | refine Below.drew ?_ | refine Below.alloc ?_ (by first | omega | (simp; done) | (simp; omega)) _ | refine Below.setCell ?_ (by first | omega | (simp; done) | (simp; omega)) _))
  have hgr : w.heap.size + 1 < w1.heap.size := y1
  clear c1 f1 y0 y1 z1 bel CH
  generalize w1.alloc (.cells #[.int .i64 st, .slice none 0 0] 28) = wl at *
  generalize w1.heap.size = g at *
  go_loopw [25] (fun i wr => ∃ (k : Nat) (sv : Value) (vs : List Value), k ≤ ss.length ∧ i = .int .i64 k ∧ MB wl wr g st sv vs ((ss.take k).map fun s => ⟨s.final, s.arcs.map F⟩)) (fun i _ => ss.length - (intOf i).toNat)
  case atStart => exact ⟨0, _, _, by omega, rfl, M0⟩
  case round =>
    obtain ⟨k, sv, vs, hk, rfl, hM⟩ := hrel
    have HM := Lib.hid hM
    have bw := hM.below bl (by omega)
    have hls : ((ss.take k).map fun s : StateL => (⟨s.final, s.arcs.map F⟩ : StateL)).length = k := by simp; omega
    by_cases hlt : k < ss.length
    · have hSr := HS.out.below bw (Nat.le_refl _)
      have d0 := hSr.c0 k hlt
      obtain ⟨A', c', d1, hA'⟩ := hSr.c1 k hlt
      have hms := HMS.out k hlt
      have ht := HT.out k hlt
      have hle := HL.out (k + 1)
      generalize ss[k] = s at *
      have q2 : s.arcs.length ≤ 400 := by omega
      have HA := Lib.hid hA'
      have HMSK := Lib.hid hms
      have rdA := hA'.rdy
      clear hSr hA' ht hle hms hM
      have lA : blk A < wr.heap.size := World.block_lt_of_cell? _ _ d0
      obtain ⟨wo, rfl⟩ : ∃ wo : World, wo = wr := ⟨_, rfl⟩
      go_wp2_with fail
      have A0 : AB ((wo.alloc (.cells #[.int .i64 s.final, .slice A' s.arcs.length c'] 40)).alloc (.cells #[.int .i64 s.final, .slice none 0 0] 40)) _ (wo.heap.size + 1) s.final _ [] := AB.start (by simp [go_sem]) (by simp [go_sem]) (by simp [go_sem]) (by simp [go_sem])
      have b2 : Below wo.heap.size wo ((wo.alloc (.cells #[.int .i64 s.final, .slice A' s.arcs.length c'] 40)).alloc (.cells #[.int .i64 s.final, .slice none 0 0] 40)) := (by repeat' (first | exact Below.refl _ _ | assumption | refine Below.drew ?_ | refine Below.alloc ?_ (by first | omega | (simp; done) | (simp; omega)) _ | refine Below.setCell ?_ (by first | omega | (simp; done) | (simp; omega)) _))
      have bwo2 : wl.heap.size ≤ ((wo.alloc (.cells #[.int .i64 s.final, .slice A' s.arcs.length c'] 40)).alloc (.cells #[.int .i64 s.final, .slice none 0 0] 40)).heap.size := by have := HM.out.grown.size; simp; omega
      generalize (wo.alloc (.cells #[.int .i64 s.final, .slice A' s.arcs.length c'] 40)).alloc (.cells #[.int .i64 s.final, .slice none 0 0] 40) = w2 at *
      go_loopw [35] (fun i wi => ∃ (t : Nat) (av : Value), t ≤ s.arcs.length ∧ i = .int .i64 t ∧ AB w2 wi (wo.heap.size + 1) s.final av ((s.arcs.take t).map F)) (fun i _ => s.arcs.length - (intOf i).toNat)
      case atStart => exact ⟨0, _, by omega, rfl, A0⟩
      case round =>
        obtain ⟨t, av, ht, rfl, hI⟩ := hrel
        obtain ⟨wi, rfl⟩ : ∃ wi : World, wi = wr := ⟨_, rfl⟩
        have HI := Lib.hid hI
        have bwi := hI.below b2 (by omega)
        have hli : ((s.arcs.take t).map F).length = t := by simp; omega
        have m1 := hI.lt
        by_cases hlt2 : t < s.arcs.length
        · have hAr := HA.out.below bwi (Nat.le_refl _)
          have d0 := hAr.c0 t hlt2; have d1 := hAr.c1 t hlt2; have d2 := hAr.c2 t hlt2; have d3 := hAr.c3 t hlt2
          have hsn := map_snoc F s.arcs t hlt2
          generalize s.arcs[t] = a at *
          have lA' : blk A' < wi.heap.size := World.block_lt_of_cell? _ _ d0
          have HSN := Lib.hid hsn
          have i1 := hI.s1; have i3 := hI.f1
          clear hsn hAr hI
          go_upto_block 3 with fail
          have hI3 := HI.out.keep ((Below.refl _ _).alloc (Nat.le_refl _) (.cells #[.int .i64 a.inn, .int .i64 a.out, .int .i64 a.wt, .int .i64 a.to] 44))
          have HI3 := Lib.hid hI3
          clear hI3
          go_cut [] (fun wx => ∃ av', AB w2 wx (wo.heap.size + 1) s.final av' ((s.arcs.take (t + 1)).map F))
          case first =>
            go_upto_region 12 with fail
            go_region_law (first
              | (refine step_app1 rfl _ _ rfl eltArc w2.heap.size av _ _ rfl (HAN.out.own.alloc _) wn.heap.size #[.int .i64 (F a).inn, .int .i64 (F a).out, .int .i64 (F a).wt, .int .i64 (F a).to] (heap_alloc_new wn _) rfl rfl (by simp [Value.oneCell']) (by rw [hli]; omega) (by omega) (by have := HAN.out.grown.size; simp; omega) ?_; intro g3 cap w3 hown1 hg1 hat hlt3; obtain ⟨e1, e2, e3⟩ := (HAN.out.keep ((Below.refl _ _).alloc (Nat.le_refl _) _)).far hg1)
              | (go_simp; refine (HF.out a _).mono ?_; rintro e wn ⟨rfl, bn⟩; have hAn := HI3.out.keep ((Below.refl _ _).drew.trans bn); have n1 := hAn.s1; have n2 := hAn.f1; have n3 := hAn.lt; have HAN := Lib.hid hAn; clear hAn))
            all_goals
              go_wp2_with fail
              go_meet
              case rel =>
                have hz := (HAN.out.keep ((Below.refl _ _).alloc (Nat.le_refl _) _)).app (F a) rfl hg1 hown1
                rw [← HSN.out, hli] at hz
                exact ⟨_, hz⟩
          case rest =>
            obtain ⟨av', hI'⟩ := hcut
            have HI' := Lib.hid hI'
            clear hI'
            go_wp2_with fail
            go_roundw
            case rel => exact ⟨t + 1, av', by omega, by go_num, HI'.out⟩
            case measure => simp [intOf]; omega
        · have hte : (s.arcs.take t).map F = s.arcs.map F := by rw [List.take_of_length_le (by omega)]
          rw [hte] at HI
          have hMi := HM.out.keep bwi
          have HMi := Lib.hid hMi
          have hRow := hMi.own.row
          rw [hls] at hRow
          have HRW := Lib.hid hRow
          have i0 := hI.s0; have i1 := hI.s1
          have z1 := hMi.m1; have z2 := hMi.f1; have z3 := hMi.lt
          have zs := hMi.grown.size
          have hq1 : k + 1 ≤ 1000000 := by omega
          clear hRow hte hI hMi
          go_wp2_with (at_builtin; refine wpList_app1 rfl _ _ rfl eltState wl.heap.size sv k _ rfl wi HRW.out #[.int .i64 s.final, av] rfl wi.heap.size rfl rfl rfl (by obtain ⟨A9, c9, h9, -, -⟩ := HI.out.form; rw [h9]; simp [Value.oneCell']) hq1 (by omega) zs ?_; intro g4 cap w4 hown4 hg4 hat hlt4; obtain ⟨e1, e2, e3⟩ := HMi.out.far hg4)
          have hM2 := HMi.out.app ⟨s.final, s.arcs.map F⟩ (HI.out.own.mono (by have := bwo2; omega)) (by rw [hls]) hg4 hown4
          rw [← HMSK.out] at hM2
          have HM2 := Lib.hid hM2
          clear hM2 hown4 hg4
          go_roundw
          case rel => exact ⟨k + 1, _, _, by omega, by go_num, HM2.out⟩
          case measure => simp [intOf]; omega
    · have hke : ss.take k = ss := List.take_of_length_le (by omega)
      rw [hke] at HM
      obtain ⟨A', c', rfl, -, -⟩ := HM.out.form
      have r0' := grown_cell HM.out.grown (by omega) r0
      have r1' := grown_cell HM.out.grown (by omega) r1
      have r2' := grown_froz HM.out.grown (by omega) r0 r2
      have r3' := grown_froz HM.out.grown (by omega) r1 r3
      have z0 := HM.out.m0; have z1 := HM.out.m1
      have hgr2 := HM.out.lt
      have hne : g ≠ w.heap.size + 1 := by omega
      have hne2 : w.heap.size + 1 ≠ g := by omega
      clear hM hke hls r0 r1 r2 r3
      generalize hsl : (List.map (fun s : StateL => (⟨s.final, s.arcs.map F⟩ : StateL)) ss).length = n' at *
      have HSL := Lib.hid hsl
      clear hsl
      go_wp2_with fail
      refine bodyPost_ret (v := .tuple #[.agg #[.int .i64 st, .slice A' n' c'], .int .i64 0]) (by simp [results, Try.results43, go_sem, *]) rfl ⟨_, rfl, ?_, ?_⟩
      · rw [HE.out]
        have hgB := HM.out.gB
        exact ⟨_, rfl, vs, ((HM.out.own.setCell (a := ⟨w.heap.size + 1, 0, none⟩) (show w.heap.size + 1 < wl.heap.size by omega) _).setCell (a := ⟨w.heap.size + 1, 1, none⟩) (show w.heap.size + 1 < wl.heap.size by omega) _).mono bl.size⟩
      · exact (bw.setCell (by simp) _).setCell (by simp) _
end Go.Proofs.Ytfikkpgigicepaa

namespace Go.Proofs.Ytfikkpgigicepaa
open Go.RowKit

theorem enterInv (x : Array Value) (W : World) : (callFunc 44 x).run Try.prog W = .ok (.enter 44 x) W := by simp [go_sem]
theorem eachM_valid {F : ArcL → ArcL} (hF : ∀ (n : Int) a, ValidArc n a → ValidArc n (F a)) {m : MachL} (h : Valid m) : Valid (eachM F m) := by
  have hl : (eachM F m).states.length = m.states.length := by simp [eachM]
  refine ⟨by rw [hl]; exact h.size, ?_, h.s0, by rw [hl]; exact h.s1, ?_⟩
  · have : arcsOf (eachM F m).states = arcsOf m.states := by
      unfold arcsOf eachM; simp only [List.map_map]; congr 1; apply List.map_congr_left; intro s _; simp
    rw [this]; exact h.arcs
  · intro s hs
    rw [hl]
    unfold eachM at hs
    obtain ⟨s0, h0, rfl⟩ := List.mem_map.1 hs
    refine ⟨(h.st s0 h0).1, fun a ha => ?_⟩
    obtain ⟨a0, ha0, rfl⟩ := List.mem_map.1 ha
    exact hF _ _ ((h.st s0 h0).2 a0 ha0)

set_option maxRecDepth 100000 in
theorem Invert_any (v : Value) (m : MachL) (w : World) (hm : MachAt w v m) (hv : Valid m) :
    Calls Try.prog 23 #[v] w fun e w' => ∃ mv, e = .returned (.tuple #[mv, .int .i64 0]) ∧ OwnMach w' w.heap.size mv (eachM invA m) ∧ Below w.heap.size w w' := by
  have HE := Lib.hid (fun W hb => each_any _ invA enterInv inv_any v m W (hm.below hb) hv)
  obtain ⟨A, c, rfl, hS⟩ := hm
  clear hS hv
  go_enter Try.func23, Try.ntmps23
  go_wp2_with fail
  refine (HE.out _ (by repeat' (first | exact Below.refl _ _ | assumption | refine Below.drew ?_ | refine Below.alloc ?_ (by first | omega | (simp; done) | (simp; omega)) _ | refine Below.setCell ?_ (by first | omega | (simp; done) | (simp; omega)) _))).mono ?_
  rintro e w1 ⟨mv, rfl, hO, bel⟩
  obtain ⟨sv, rfl, vs, hV⟩ := hO
  have HV := Lib.hid hV
  obtain ⟨A', c', rfl, -, -⟩ := hV.form
  obtain ⟨c1, f1⟩ := bcell bel; have z1 := bel.size; simp at z1
  have y1 : w.heap.size + 1 < w1.heap.size := by omega
  clear hV
  go_wp2_with fail
  refine bodyPost_ret (v := .tuple #[.agg #[.int .i64 (eachM invA m).start, .slice A' (eachM invA m).states.length c'], .int .i64 0]) (by simp [results, Try.results23, go_sem, *]) rfl ⟨_, rfl, ?_, ?_⟩
  · exact ⟨_, rfl, vs, ((HV.out.setCell (a := ⟨w.heap.size + 1, 0, none⟩) (by simp) _).setCell (a := ⟨w.heap.size + 1, 1, none⟩) (by simp) _).mono (by simp; omega)⟩
  · exact (by repeat' (first | exact Below.refl _ _ | assumption | refine Below.step ?_ bel | refine Below.drew ?_ | refine Below.alloc ?_ (by first | omega | (simp; done) | (simp; omega)) _ | refine Below.setCell ?_ (by first | omega | (simp; done) | (simp; omega)) _))
end Go.Proofs.Ytfikkpgigicepaa
