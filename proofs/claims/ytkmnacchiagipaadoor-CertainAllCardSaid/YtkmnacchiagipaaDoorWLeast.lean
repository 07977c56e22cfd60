/- weigh.least. -/
import Derived.Test.YtkmnacchiagipaaDoorWeighPlain
import Derived.Test.YtkmnacchiagipaaDoorWQueue
import Derived.Test.YtkmnacchiagipaaDoorMaps
import Derived.Test.YtkmnacchiagipaaDoorBuild
import Derived.Deep.LoopGhost
import Derived.Deep.DeepCutAuto
import Derived.Deep.CutBlock
import Derived.LoopTactic
import Derived.Carry
namespace Go.Proofs.YtkmnacchiagipaaDoor
open Go.RowKit

theorem step_any (A : Option Addr) (c : Nat) (xs : List Int) (p : Nat) (lab : Int) (w : World) (h : Rd w A xs.length 1 (icells xs)) (hn : xs.length ≤ 1000) (hp : p ≤ xs.length) :
    Calls Tryd.prog 131 #[.slice A xs.length c, .int .i64 p, .int .i64 lab] w fun e w' => e = .returned (.tuple #[.int .i64 (stepAt p lab : Nat), .bool (stepOk xs p lab)]) ∧ Below w.heap.size w w' := by
  by_cases hl : lab = 0
  · subst hl
    exact (step_empty A xs.length c p w).mono (by rintro e w' ⟨rfl, h⟩; exact ⟨by simp [stepAt, stepOk], h⟩)
  · exact (step_label A xs.length c xs p lab w h hn hp hl).mono (by rintro e w' ⟨rfl, h⟩; exact ⟨by simp [stepAt, stepOk, hl], h⟩)

theorem assoc_mem {κ ν : Type} [DecidableEq κ] {l : List (κ × ν)} {k : κ} {v : ν} (h : assoc l k = some v) : (k, v) ∈ l := by
  induction l with
  | nil => cases h
  | cons p l ih =>
    simp only [assoc] at h
    split at h
    · rename_i hk; cases h; subst hk; simp
    · exact List.mem_cons_of_mem _ (ih h)
theorem mput_new {κ ν : Type} [DecidableEq κ] {l : List (κ × ν)} {k : κ} {v : ν} (h : k ∉ l.map (·.1)) : mput l k v = l ++ [(k, v)] := by
  induction l with
  | nil => rfl
  | cons p l ih =>
    simp only [List.map_cons, List.mem_cons, not_or] at h
    simp only [mput, if_neg h.1, ih h.2]; rfl
/-- least's memory: the machine's box, the map of what is done, the heap -/
structure LS (w : World) (st : Int) (A : Option Addr) (n c : Nat) (W : World) (D : List (Pl × Int)) (l : List ItemL) (r : Option Nat) : Prop where
  mb : Blk W w.heap.size #[.int .i64 st, .slice A n c] 41
  mp : MapB W (w.heap.size + 1) keyPl intV D
  hp : WHeap (w.heap.size + 2) (w.heap.size + 3) r W l
  bel : Below w.heap.size w W
section
variable {w W W' : World} {st : Int} {A : Option Addr} {n c : Nat} {D : List (Pl × Int)} {l : List ItemL} {r : Option Nat}
theorem LS.keep (h : LS w st A n c W D l r) (hb : Below W.heap.size W W') : LS w st A n c W' D l r :=
  ⟨h.mb.step hb, h.mp.below hb (Nat.le_refl _), h.hp.keep hb, h.bel.trans (hb.mono h.bel.size)⟩
theorem LS.heap (h : LS w st A n c W D l r) {l' : List ItemL} {r' : Option Nat} (hp : WHeap (w.heap.size + 2) (w.heap.size + 3) r' W' l') (hf : WFar (w.heap.size + 3) r W W') : LS w st A n c W' D l' r' := by
  have hr := h.hp.row
  have h1 := h.mb.lt; have h2 := h.mp.lt
  refine ⟨hf.blk h.mb (by omega) (fun e => by have := (hr _ e).1; omega), h.mp.kept (hf.block _ h2 (by omega) (fun e => by have := (hr _ e).1; omega)), hp, h.bel.trans (hf.below (by omega) (fun k e => by have := (hr k e).1; omega) h.bel.size)⟩
theorem LS.map (h : LS w st A n c W D l r) {D' : List (Pl × Int)} (hm : MapB W' (w.heap.size + 1) keyPl intV D') (hg : W.grownBy W' (some (w.heap.size + 1))) : LS w st A n c W' D' l r :=
  ⟨h.mb.grown hg (by simp), hm, h.hp.far hg (by simp) (by
    cases hr : r with
    | none => exact .inl rfl
    | some k => right; intro e; have := (h.hp.row k hr).1; cases e; omega), h.bel.grown hg h.bel.size (fun k hk => by cases hk; omega)⟩
end

theorem final_le {m : MachL} (hv : Valid m) {F : Int} (hF : ∀ s ∈ m.states, s.final ≠ INF → s.final ≤ F) (p : Pl) (hne : finalP m p ≠ INF) : finalP m p ≤ F ∧ 0 ≤ finalP m p := by
  unfold finalP at *
  cases hs : m.states[p.1]? with
  | none => rw [hs] at hne; exact absurd rfl hne
  | some s =>
    rw [hs] at hne
    simp only [Option.map_some, Option.getD_some] at hne ⊢
    have h1 := hF s (List.mem_of_getElem? hs) hne
    have h2 := (hv.st s (List.mem_of_getElem? hs)).1
    unfold ValidFinal at h2
    omega
theorem WInv.bst_le {m : MachL} {x y : List Int} {any : Bool} {W : Int} {D : List (Pl × Int)} {l : List ItemL} {best : Int} {p0 : Pl} {pend : List ArcL} (h : WInv m x y any W D l best p0 pend) (hv : Valid m) {F : Int} (hF : ∀ s ∈ m.states, s.final ≠ INF → s.final ≤ F) :
    best = -1 ∨ (0 ≤ best ∧ best ≤ D.length * W + F) := by
  rcases h.bst with ⟨h1, -⟩ | ⟨⟨p, d, h1, h2, h3, h4⟩, -⟩
  · exact .inl h1
  · right
    have a := final_le hv hF p h3
    have b := h.doneB p d h1
    have c := (h.doneR p d h1).nonneg hv
    omega

set_option maxRecDepth 100000 in
set_option maxHeartbeats 8000000 in
theorem least_any (v : Value) (m : MachL) (x y : List Int) (any : Bool) (A1 A2 : Option Addr) (c1 c2 : Nat) (WW F : Int) (AA N : Nat) (w : World) (hm : MachAt w v m) (hv : Valid m)
    (hx : Rd w A1 x.length 1 (icells x)) (hy : Rd w A2 y.length 1 (icells y)) (hlx : x.length ≤ 12) (hly : y.length ≤ 12)
    (hW0 : 0 ≤ WW) (hW1 : WW ≤ 1000000000) (hW : ∀ s ∈ m.states, ∀ a ∈ s.arcs, a.wt ≤ WW) (hF : ∀ s ∈ m.states, s.final ≠ INF → s.final ≤ F) (hA : ∀ s ∈ m.states, s.arcs.length ≤ AA)
    (hNN : m.states.length * (x.length + 1) * (y.length + 1) ≤ N) (hN : N * (AA + 1) + 1 ≤ 1000000) :
    Calls Tryd.prog 97 #[v, .slice A1 x.length c1, .slice A2 y.length c2, .bool any] w fun e w' => ∃ r err, e = .returned (.tuple #[.int .i64 r, .int .i64 err]) ∧ LeastOf (Tot m x y any) r err ∧ ((N : Int) * WW + F ≤ 1000000000 → err = 0 ∧ (r = INF ∨ r ≤ (N : Int) * WW + F)) ∧ Below w.heap.size w w' := by
  have HM := Lib.hid hm
  obtain ⟨A, c, rfl, hS⟩ := hm
  have HS := Lib.hid hS; have HV := Lib.hid hv; have HX := Lib.hid hx; have HY := Lib.hid hy
  have HW := Lib.hid hW; have HF := Lib.hid hF; have HA := Lib.hid hA
  have s1 := hv.s1; have hsz := hv.size
  have rd := hS.rdy
  clear hS hv hx hy hW hF hA
  by_cases h0 : m.start < 0
  · have HT : Hid (∀ d, ¬ Tot m x y any d) := Lib.hid (by
      rintro d ⟨p, d', hr, -⟩
      have : 0 ≤ m.start := by
        induction hr with
        | start h => exact h
        | step _ _ _ ih => exact ih
      omega)
    generalize hst : m.start = st at *
    go_enter Tryd.func97, Tryd.ntmps97
    go_wp2_with fail
    go_ret2
    exact ⟨_, _, rfl, .inl ⟨rfl, rfl, HT.out⟩, fun _ => ⟨rfl, .inl rfl⟩, (by repeat' (first | exact Below.refl _ _ | assumption | refine Below.drew ?_ | refine Below.alloc ?_ (by first | omega | (simp; done) | (simp; omega)) _ | refine Below.setCell ?_ (by first | omega | (simp; done) | (simp; omega)) _))⟩
  · have HI := Lib.hid (WInv.init (m := m) (x := x) (y := y) (any := any) (W := WW) (by omega) (0, 0, 0))
    generalize hst : m.start = st at *
    have HST := Lib.hid hst; clear hst
    obtain ⟨sn, rfl⟩ : ∃ sn : Nat, st = sn := ⟨st.toNat, by omega⟩
    have hmm := run_makeMap (P := Tryd.prog) 228 (w.alloc (.cells #[.int .i64 sn, .slice A m.states.length c] 41))
    go_enter Tryd.func97, Tryd.ntmps97
    go_wp2_with fail
    clear hmm
    have L0 : LS w sn A m.states.length c ((((w.alloc (.cells #[.int .i64 sn, .slice A m.states.length c] 41)).alloc (.map #[] 0)).alloc (.cells #[.int .i64 sn, .int .i64 0, .int .i64 0, .int .i64 0] 232)).alloc (.cells #[.slice (some ⟨w.heap.size + 2, 0, none⟩) 1 1] 234)) [] [⟨(sn : Int).toNat, 0, 0, 0⟩] (some (w.heap.size + 2)) := by
      refine ⟨(((Blk.new _ _ _).alloc _).alloc _).alloc _, ((MapB.made _ _ (by simp) _ _).alloc _).alloc _, ⟨⟨some ⟨w.heap.size + 2, 0, none⟩, 1, Blk.new' (by simp), ?_, rfl⟩, ?_, by simp⟩, (by repeat' (first | exact Below.refl _ _ | assumption | refine Below.drew ?_ | refine Below.alloc ?_ (by first | omega | (simp; done) | (simp; omega)) _ | refine Below.setCell ?_ (by first | omega | (simp; done) | (simp; omega)) _))⟩
      · have h1 := World.ownsRow_lit (base := w.heap.size + 2) (e := 232) (size := 4) ((w.alloc (.cells #[.int .i64 sn, .slice A m.states.length c] 41)).alloc (.map #[] 0)) #[.int .i64 sn, .int .i64 0, .int .i64 0, .int .i64 0] 1 (by simp) (by simp [maxLen]) rfl
        have h2 := h1.alloc (.cells #[.slice (some ⟨w.heap.size + 2, 0, none⟩) 1 1] 234)
        simpa [itemCells] using h2
      · intro k hk h0 _; simp at hk; omega
    generalize (((w.alloc (.cells #[.int .i64 sn, .slice A m.states.length c] 41)).alloc (.map #[] 0)).alloc (.cells #[.int .i64 sn, .int .i64 0, .int .i64 0, .int .i64 0] 232)).alloc (.cells #[.slice (some ⟨w.heap.size + 2, 0, none⟩) 1 1] 234) = w1 at *
    have HL0 := Lib.hid L0
    clear L0
    have HNN := Lib.hid hNN; clear hNN
    go_loopg [10] (N * (AA + 1) + 1) (fun g bv wx => ∃ (D : List (Pl × Int)) (l : List ItemL) (best : Int) (r : Option Nat) (p0 : Pl), bv = .int .i64 best ∧ (N - D.length) * (AA + 1) + l.length = g ∧ g ≤ N * (AA + 1) + 1 ∧ LS w sn A m.states.length c wx D l r ∧ WInv m x y any WW D l best p0 [])
    case atStart => exact ⟨[], _, -1, _, _, rfl, by simp, Nat.le_refl _, HL0.out, HI.out⟩
    case round =>
      obtain ⟨D, l, best, r, p0, rfl, hg, hgN, hL, hI⟩ := hrel
      have HLS := Lib.hid hL; have HIN := Lib.hid hI
      have HG := Lib.hid hg
      obtain ⟨A', c', hB, hO, hr⟩ := hL.hp.q
      have kq := hB.cell; have lq := hB.lt
      have hDN : D.length ≤ N := by exact Nat.le_trans (places_le D hI.nd (fun p d hd => (hI.doneR p d hd).rng HV.out)) HNN.out
      have hml : (N - D.length) * (AA + 1) ≤ N * (AA + 1) := Nat.mul_le_mul_right _ (Nat.sub_le _ _)
      have hll : l.length ≤ 1000000 := by omega
      have HH := Lib.hid hL.hp
      clear hL hI hg hB hO hr hml
      rcases l with _ | ⟨x0, l0⟩
      · have HD := Lib.hid (HIN.out.done)
        have lz : (([] : List ItemL).length) = 0 := rfl
        rw [lz] at kq
        clear HH
        have hbb := HIN.out.bst_le HV.out HF.out
        have hDW : (D.length : Int) * WW ≤ N * WW := Int.mul_le_mul_of_nonneg_right (by omega) hW0
        have hbd : (best ≤ N * WW + F ∨ best = -1) ∧ -1 ≤ best := ⟨by omega, by omega⟩
        have HBD := Lib.hid hbd
        by_cases hneg : best < 0
        · go_wp2_with fail
          go_ret2
          refine ⟨_, _, rfl, ?_, fun _ => ⟨rfl, .inl rfl⟩, HLS.out.bel⟩
          rcases HD.out with ⟨h1, h2⟩ | ⟨h1, h2⟩
          · exact .inl ⟨rfl, rfl, h2⟩
          · exfalso
            obtain ⟨p, d, hr, he, hf, hb⟩ := h1
            have := hr.nonneg HV.out
            have := (final_le HV.out HF.out p hf).2
            omega
        · by_cases hbig : 1000000000 < best
          · go_wp2_with fail
            go_ret2
            refine ⟨_, _, rfl, ?_, fun h => ?_, HLS.out.bel⟩
            · rcases HD.out with ⟨h1, h2⟩ | ⟨h1, h2⟩
              · omega
              · exact .inr ⟨best, h1, h2, .inr ⟨hbig, rfl, rfl⟩⟩
            · exfalso; omega
          · go_wp2_with fail
            go_ret2
            refine ⟨_, _, rfl, ?_, fun _ => ⟨rfl, .inr (by omega)⟩, HLS.out.bel⟩
            rcases HD.out with ⟨h1, h2⟩ | ⟨h1, h2⟩
            · omega
            · exact .inr ⟨best, h1, h2, .inl ⟨by omega, rfl, rfl⟩⟩
      · have hlp : (x0 :: l0).length = l0.length + 1 := rfl
        rw [hlp] at kq
        go_wp2_with fail
        refine (wpop_any HH.out hll (by simp)).mono ?_
        rintro e w2 ⟨it, l', r', rfl, hp, hmin, hH, hfar, hrr⟩
        have hL2 := HLS.out.heap hH hfar
        have HL2 := Lib.hid hL2
        have I2 := Lib.hid (HIN.out.perm hp)
        have I2m : Hid (∀ p d, (p, d) ∈ D → d ≤ it.cost) := Lib.hid (I2.out.order it (by simp))
        have I2c : Hid (0 ≤ it.cost ∧ it.cost ≤ D.length * WW) := Lib.hid ⟨(I2.out.itemR it (by simp)).nonneg HV.out, I2.out.itemB it (by simp)⟩
        have HMIN := Lib.hid hmin
        have HP := Lib.hid hp
        unfold itemI itemV
        have m2 := hL2.mp.lt
        have m3 : w.heap.size + 3 < w2.heap.size := by obtain ⟨_, _, hb, -⟩ := hH.q; exact hb.lt
        clear hfar hrr hH hp hmin hL2 kq
        go_upto_region 8 with fail
        have B2 : Blk (w2.alloc (.cells #[.int .i64 it.st, .int .i64 it.rd, .int .i64 it.wr, .int .i64 it.cost] 232)) w2.heap.size _ _ := Blk.new _ _ _
        have HL3 := Lib.hid (HL2.out.keep (W' := w2.alloc (.cells #[.int .i64 it.st, .int .i64 it.rd, .int .i64 it.wr, .int .i64 it.cost] 232)) (by repeat' (first | exact Below.refl _ _ | assumption | refine Below.drew ?_ | refine Below.alloc ?_ (by first | omega | (simp; done) | (simp; omega)) _ | refine Below.setCell ?_ (by first | omega | (simp; done) | (simp; omega)) _)))
        have r2lt := fun k e => (HL2.out.hp.row k e).2
        clear HL2
        generalize w2.alloc (.cells #[.int .i64 it.st, .int .i64 it.rd, .int .i64 it.wr, .int .i64 it.cost] 232) = w3 at *
        have kb := B2.cell
        have hlk : (Instr.lookup 228 (.map (some (w.heap.size + 1))) (.agg #[.int .i64 it.st, .int .i64 it.rd, .int .i64 it.wr]) true).run Tryd.prog w3 = .ok (.tuple #[((assoc D it.at').map intV).getD (.int .i64 0), .bool (assoc D it.at').isSome]) w3 :=
          run_lookup_x HL3.out.mp keyOkPl Tryd.underlying228 it.at' true (zeroInt' _)
        cases has : assoc D it.at' with
        | some d =>
          rw [has] at hlk
          simp only [Option.map_some, Option.getD_some, Option.isSome_some] at hlk
          have hmem : (it.at', d) ∈ D := assoc_mem has
          have I3 := Lib.hid (I2.out.seen hmem)
          have hlen := HP.out.length_eq
          clear has hmem I2
          go_wp2_with fail
          go_roundg ((N - D.length) * (AA + 1) + l'.length)
          case measure => have := HG.out; simp only [List.length_cons] at hlen this; omega
          case rel => exact ⟨D, l', best, r', p0, rfl, rfl, by have := HG.out; simp only [List.length_cons] at hlen this; omega, HL3.out, I3.out⟩
        | none =>
          rw [has] at hlk
          simp only [Option.map_none, Option.getD_none, Option.isSome_none] at hlk
          have hnot : it.at' ∉ D.map (·.1) := (assoc_none_iff D _).1 has
          have I3 := Lib.hid (I2.out.new HV.out hW0 HMIN.out hnot)
          have hput := mput_new (v := it.cost) hnot
          have hmu := run_mapUpdate_x HL3.out.mp keyOkPl Tryd.underlying228 it.at' it.cost
          have HMP := HL3.out.mp.put it.at' it.cost
          have hgr : w3.grownBy _ (some (w.heap.size + 1)) := setBlock_grown (b := w.heap.size + 1) (mapObj keyPl intV (mput D it.at' it.cost))
          rw [hput] at hmu HMP hgr
          generalize Go.ChangeMaps.setBlock w3 (w.heap.size + 1) (mapObj keyPl intV (D ++ [(it.at', it.cost)])) = w4 at *
          have hmu2 : (Instr.mapUpdate 228 (.map (some (w.heap.size + 1))) (.agg #[.int .i64 it.st, .int .i64 it.rd, .int .i64 it.wr]) (.int .i64 it.cost)).run Tryd.prog w3 = .ok () w4 := hmu
          have HL4 := Lib.hid (HL3.out.map HMP hgr)
          have m1 := HL3.out.mp.lt; 
          have B4 := B2.grown hgr (by simp; omega)
          clear has hnot hput HMP hgr hmu I2
          have hrg := (I3.out.doneR it.at' it.cost (by simp)).rng HV.out
          have hst := hrg.1
          simp only at hst
          have hS4 := HS.out.below HL4.out.bel (Nat.le_refl _)
          have c0 := hS4.c0 it.st hst
          obtain ⟨AS, cS, c1', hAS⟩ := HS.out.c1 it.st hst
          have c1 := cell_keep HL4.out.bel (Nat.le_refl _) c1'
          have hsg : m.states[it.st]? = some m.states[it.st] := List.getElem?_eq_getElem hst
          have hfp : finalP m it.at' = m.states[it.st].final := by unfold finalP; rw [hsg]; rfl
          have hap : arcsP m it.at' = m.states[it.st].arcs := by unfold arcsP; rw [hsg]; rfl
          have HSM := Lib.hid (List.getElem_mem hst)
          have hr1 := hrg.2.1; have hr2 := hrg.2.2
          simp only at hr1 hr2
          generalize m.states[it.st] = s at *
          have HFP := Lib.hid hfp; have HAP := Lib.hid hap; have HAS := Lib.hid hAS
          have rdS := hAS.rdy
          have lA := World.block_lt_of_cell? _ _ c0
          clear hS4 c1' hsg hfp hap hAS hrg
          have i0 : (0 : Int) ≤ ↑it.st := by omega
          have i1 : (it.st : Int) < (m.states.length : Int) := by omega
          have k4 := HL4.out.mb.cell; have k4b := B4.cell
          have l4 := HL4.out.mb.lt; have l4b := B4.lt
          go_upto_region 12 with fail
          have BS : Blk (w4.alloc (.cells #[.int .i64 s.final, .slice AS s.arcs.length cS] 76)) w4.heap.size _ _ := Blk.new _ _ _
          have B5 := B4.alloc (.cells #[.int .i64 s.final, .slice AS s.arcs.length cS] 76)
          have HL5 := Lib.hid (HL4.out.keep (W' := w4.alloc (.cells #[.int .i64 s.final, .slice AS s.arcs.length cS] 76)) (by repeat' (first | exact Below.refl _ _ | assumption | refine Below.drew ?_ | refine Below.alloc ?_ (by first | omega | (simp; done) | (simp; omega)) _ | refine Below.setCell ?_ (by first | omega | (simp; done) | (simp; omega)) _)))
          clear HL4 HL3 HLS HH B4 kb c0 c1 k4 k4b l4 l4b lA
          generalize w4.alloc (.cells #[.int .i64 s.final, .slice AS s.arcs.length cS] 76) = w5 at *
          have k5 := B5.cell; have kS := BS.cell
          have l5 := B5.lt; have lS := BS.lt
          go_cut [17] (fun bv wx => bv = .bool (endsP x y any it.at') ∧ wx = w5)
          case first =>
            by_cases h1 : it.rd = x.length
            · have e1 : ((it.rd : Int) == (x.length : Int)) = true := by simp [h1]
              by_cases h2 : it.wr = y.length
              · have e2 : ((it.wr : Int) == (y.length : Int)) = true := by simp [h2]
                cases any
                all_goals
                  go_wp2_with fail
                  go_meet
                  case rel => exact ⟨by simp [endsP, h1, h2], rfl⟩
              · have e2 : ((it.wr : Int) == (y.length : Int)) = false := by simp; omega
                have e3 : (it.wr == y.length) = false := by simp; omega
                cases any
                all_goals
                  go_wp2_with fail
                  go_meet
                  case rel => exact ⟨by simp [endsP, h1, e3], rfl⟩
            · have e1 : ((it.rd : Int) == (x.length : Int)) = false := by simp; omega
              have e3 : (it.rd == x.length) = false := by simp; omega
              go_wp2_with fail
              go_meet
              case rel => exact ⟨by simp [endsP, e3], rfl⟩
          case rest =>
            obtain ⟨rfl, rfl⟩ := hcut
            generalize hee : endsP x y any it.at' = ee at *
            have HEE := Lib.hid hee; clear hee
            have hbb := HIN.out.bst_le HV.out HF.out
            have hDW : (D.length : Int) * WW ≤ N * WW := Int.mul_le_mul_of_nonneg_right (by omega) hW0
            have hNW : (N : Int) * WW ≤ 1000000 * 1000000000 := Int.mul_le_mul (by have := Nat.le_mul_of_pos_right N (show 0 < AA + 1 by omega); omega) hW1 hW0 (by omega)
            have hic := I2c.out
            have hfv : 0 ≤ s.final ∧ s.final ≤ 1000000001 := by
              have := (HV.out.st s HSM.out).1
              unfold ValidFinal at this; omega
            have hb1 : (best ≤ N * WW + F ∨ best = -1) ∧ -1 ≤ best := ⟨by omega, by omega⟩
            have HBE : Hid (best' m x y any best it.at' it.cost = if ee = true ∧ s.final ≠ INF ∧ (best < 0 ∨ it.cost + s.final < best) then it.cost + s.final else best) := Lib.hid (by unfold best'; rw [HEE.out, HFP.out])
            go_upto_region 13 with fail
            go_cut [94] (fun bv wx => bv = .bool (decide (ee = true ∧ s.final ≠ INF ∧ (best < 0 ∨ it.cost + s.final < best))) ∧ wx = wc)
            case first =>
              have hwr : IntKind.i64.wrap (it.cost + s.final) = it.cost + s.final := IntWalk.i64_in _ (by omega)
              cases ee
              · go_wp2_with fail
                go_meet
                case rel => exact ⟨by simp, rfl⟩
              · by_cases hf : s.final = 1000000001
                · have e1 : (s.final != 1000000001) = false := by simp [hf]
                  go_wp2_with fail
                  go_meet
                  case rel => exact ⟨by simp [hf], rfl⟩
                · have e1 : (s.final != 1000000001) = true := by simpa using hf
                  by_cases hb : best < 0
                  · go_wp2_with fail
                    go_meet
                    case rel => exact ⟨by simp [hf, hb], rfl⟩
                  · by_cases hl : it.cost + s.final < best
                    · go_wp2_with fail
                      go_meet
                      case rel => exact ⟨by simp [hf, hl], rfl⟩
                    · go_wp2_with fail
                      go_meet
                      case rel => exact ⟨by simp [hl]; omega, rfl⟩
            case rest =>
              obtain ⟨rfl, rfl⟩ := hcut
              generalize htb : decide (ee = true ∧ s.final ≠ INF ∧ (best < 0 ∨ it.cost + s.final < best)) = tb at *
              have HTB := Lib.hid htb; clear htb
              go_upto_if 94 with fail
              go_cut [10] (fun bv wx => bv = .int .i64 (best' m x y any best it.at' it.cost) ∧ wx = wc)
              case first =>
                have hwr : IntKind.i64.wrap (it.cost + s.final) = it.cost + s.final := IntWalk.i64_in _ (by omega)
                cases tb
                · have HB2 := Lib.hid (HBE.out.trans (if_neg (of_decide_eq_false HTB.out)))
                  go_wp2_with fail
                  go_meet
                  case rel => exact ⟨by rw [HB2.out], rfl⟩
                · have HB2 := Lib.hid (HBE.out.trans (if_pos (of_decide_eq_true HTB.out)))
                  go_wp2_with fail
                  go_meet
                  case rel => exact ⟨by rw [HB2.out], rfl⟩
              case rest =>
                obtain ⟨rfl, rfl⟩ := hcut
                generalize best' m x y any best it.at' it.cost = nb at *
                clear HBE
                go_upto_region 16 with fail
                have hlD : (D ++ [(it.at', it.cost)]).length = D.length + 1 := by simp
                have hND : D.length + 1 ≤ N := by
                  have := Nat.le_trans (places_le _ I3.out.nd (fun p d hd => (I3.out.doneR p d hd).rng HV.out)) HNN.out
                  omega
                have hp0 : (it.at', it.cost) ∈ D ++ [(it.at', it.cost)] := by simp
                have hmax : ∀ p d, (p, d) ∈ D ++ [(it.at', it.cost)] → d ≤ it.cost := by
                  intro p d hd
                  rcases List.mem_append.1 hd with hd | hd
                  · exact I2m.out p d hd
                  · simp at hd; omega
                have h1W : it.cost + WW ≤ ((D ++ [(it.at', it.cost)]).length : Nat) * WW := by
                  rw [hlD, Int.natCast_add, Int.add_mul]
                  have := hic.2
                  simp only [Int.natCast_one, Int.one_mul]; omega
                generalize hDD : D ++ [(it.at', it.cost)] = DD at *
                have HP0 := Lib.hid hp0; have HMAX := Lib.hid hmax; have H1W := Lib.hid h1W
                have hrB : r' ≠ some w2.heap.size := fun e => by have := r2lt _ e; omega
                have hlen := HP.out.length_eq
                simp only [List.length_cons] at hlen
                have hpt : (N - D.length) * (AA + 1) = (N - DD.length) * (AA + 1) + (AA + 1) := by
                  rw [show N - D.length = N - DD.length + 1 by omega, Nat.succ_mul]
                have hgg := HG.out
                simp only [List.length_cons] at hgg
                have hsl := HA.out s HSM.out
                have HAP2 : Hid (s.arcs.drop 0 = arcsP m it.at') := Lib.hid (by rw [HAP.out]; rfl)
                clear hp0 hmax h1W k5 kS BS lS I2c HEE HFP
                have hcb : it.cost + 1000000000 ≤ 2000000000000000 := by omega
                clear hbb hb1 hDW hNW hfv
                go_loopw [103] (fun iv wx => ∃ (k : Nat) (l : List ItemL) (r : Option Nat), k ≤ s.arcs.length ∧ iv = .int .i64 k ∧ LS w sn A m.states.length c wx DD l r ∧ WInv m x y any WW DD l nb it.at' (s.arcs.drop k) ∧ Blk wx w2.heap.size #[.int .i64 it.st, .int .i64 it.rd, .int .i64 it.wr, .int .i64 it.cost] 232 ∧ r ≠ some w2.heap.size ∧ l.length ≤ l'.length + k) (fun iv _ => s.arcs.length - (intOf iv).toNat)
                case atStart => exact ⟨0, l', r', by omega, rfl, HL5.out, by rw [HAP2.out]; exact I3.out, B5, hrB, by omega⟩
                case round =>
                  obtain ⟨k, l, r3, hk, rfl, hL, hI, hBi, hr3, hll2⟩ := hrel
                  by_cases hlt : k < s.arcs.length
                  · have hdr : s.arcs.drop k = s.arcs[k] :: s.arcs.drop (k + 1) := List.drop_eq_getElem_cons hlt
                    rw [hdr] at hI
                    have hva := (HV.out.st s HSM.out).2 _ (List.getElem_mem hlt)
                    have hwa := HW.out s HSM.out _ (List.getElem_mem hlt)
                    have hmem : s.arcs[k] ∈ arcsP m it.at' := by rw [HAP.out]; exact List.getElem_mem hlt
                    have hAr := HAS.out.below hL.bel (Nat.le_refl _)
                    have d0 := hAr.c0 k hlt; have d1 := hAr.c1 k hlt; have d2 := hAr.c2 k hlt; have d3 := hAr.c3 k hlt
                    have lAS := World.block_lt_of_cell? _ _ d0
                    generalize s.arcs[k] = a at *
                    obtain ⟨tn, htn⟩ : ∃ tn : Nat, a.to = tn := ⟨a.to.toNat, by have := hva.t0; omega⟩
                    rw [htn] at d3
                    obtain ⟨v0, v1, v2, v3, v4, v5, v6, v7⟩ := hva
                    have HIa := Lib.hid hI; have HME := Lib.hid hmem; have HLa := Lib.hid hL
                    have HTN := Lib.hid htn
                    clear hdr hmem hAr hL hI htn v6 v7
                    go_upto_region 18 with fail
                    have BA : Blk (wr.alloc (.cells #[.int .i64 a.inn, .int .i64 a.out, .int .i64 a.wt, .int .i64 tn] 78)) wr.heap.size _ _ := Blk.new _ _ _
                    have HLb := Lib.hid (HLa.out.keep (W' := wr.alloc (.cells #[.int .i64 a.inn, .int .i64 a.out, .int .i64 a.wt, .int .i64 tn] 78)) (by repeat' (first | exact Below.refl _ _ | assumption | refine Below.drew ?_ | refine Below.alloc ?_ (by first | omega | (simp; done) | (simp; omega)) _ | refine Below.setCell ?_ (by first | omega | (simp; done) | (simp; omega)) _)))
                    have Bi := hBi.alloc (.cells #[.int .i64 a.inn, .int .i64 a.out, .int .i64 a.wt, .int .i64 tn] 78)
                    have rA : r3 ≠ some wr.heap.size := fun e => by have := (HLa.out.hp.row _ e).2; omega
                    clear hBi HLa d0 d1 d2 d3 lAS
                    generalize wr.alloc (.cells #[.int .i64 a.inn, .int .i64 a.out, .int .i64 a.wt, .int .i64 tn] 78) = w6 at *
                    have k6 := BA.cell; have k7 := Bi.cell
                    have l6 := BA.lt; have l7 := Bi.lt
                    go_wp2_with fail
                    refine (step_any A1 c1 x it.rd a.inn _ (HX.out.below HLb.out.bel rfl) (by omega) hr1).mono ?_
                    rintro e w7 ⟨rfl, b7⟩
                    have BA7 := BA.step b7; have Bi7 := Bi.step b7
                    have HLc := Lib.hid (HLb.out.keep b7)
                    have k8 := BA7.cell; have k9 := Bi7.cell
                    have l8 := BA7.lt; have l9 := Bi7.lt
                    generalize hok : stepOk x it.rd a.inn = ok at *
                    have HOK := Lib.hid hok; clear hok
                    clear k6 k7 l6 l7 BA Bi HLb b7
                    go_upto_region 20 with fail
                    go_upto_if 121 with fail
                    go_cut [22, 23] (fun jv bv wx => jv = .int .i64 ((if any = true then it.wr else stepAt it.wr a.out : Nat) : Int) ∧ bv = .bool (any || stepOk y it.wr a.out) ∧ Below w7.heap.size w7 wx)
                    case first =>
                      cases any
                      · go_wp2_with fail
                        refine (step_any A2 c2 y it.wr a.out _ (HY.out.below HLc.out.bel rfl) (by omega) hr2).mono ?_
                        rintro e w8 ⟨rfl, b8⟩
                        go_wp2_with fail
                        go_meet
                        case rel => exact ⟨by simp, by simp, b8⟩
                      · go_wp2_with fail
                        go_meet
                        case rel => exact ⟨by simp, by simp, Below.refl _ _⟩
                    case rest =>
                      obtain ⟨rfl, rfl, b8⟩ := hcut
                      generalize hj : (if any = true then it.wr else stepAt it.wr a.out) = j at *
                      generalize hal : (any || stepOk y it.wr a.out) = also at *
                      have HJ := Lib.hid hj; have HAL := Lib.hid hal
                      have HNX : Hid (nextP x y any it.at' a = if (ok && also) = true then some (tn, stepAt it.rd a.inn, j) else none) := Lib.hid (by
                        unfold nextP
                        simp only [HOK.out, hal, hj, HTN.out, Int.toNat_natCast])
                      clear hj hal
                      have BA9 := BA7.step b8; have Bi9 := Bi7.step b8
                      have HLd := Lib.hid (HLc.out.keep b8)
                      have k10 := BA9.cell; have k11 := Bi9.cell
                      have l10 := BA9.lt; have l11 := Bi9.lt
                      clear k8 k9 l8 l9 BA7 HLc
                      have Bi10 := Bi9
                      clear Bi7 Bi9
                      by_cases hb : (ok && also) = true
                      · have I5 := Lib.hid (HIa.out.push HME.out HP0.out HMAX.out H1W.out v4 hwa (HNX.out.trans (if_pos hb)) ⟨tn, stepAt it.rd a.inn, j, it.cost + a.wt⟩ rfl rfl)
                        obtain ⟨rfl, rfl⟩ : ok = true ∧ also = true := by simpa using hb
                        have hwr : IntKind.i64.wrap (it.cost + a.wt) = it.cost + a.wt := IntWalk.i64_in _ (by omega)
                        clear hb
                        go_wp2_with fail
                        refine (wpush_any HLd.out.hp (by omega) ⟨tn, stepAt it.rd a.inn, j, it.cost + a.wt⟩).mono ?_
                        rintro e w10 ⟨rfl, l10', r10, hp10, hH10, hf10, hr10⟩
                        have HLe := Lib.hid (HLd.out.heap hH10 hf10)
                        have Bi11 := hf10.blk Bi10 (by omega) hr3
                        have I6 := Lib.hid (I5.out.perm hp10)
                        have rI2 : r10 ≠ some w2.heap.size := fun e => by
                          rcases hr10 _ e with h | h
                          · exact hr3 h
                          · omega
                        have hl10 := hp10.length_eq
                        simp only [List.length_append, List.length_singleton] at hl10
                        clear hp10 hH10 hf10 hr10 k10 k11
                        go_wp2_with fail
                        go_roundw
                        case rel => exact ⟨k + 1, l10', r10, by omega, by go_num, HLe.out, I6.out, Bi11, rI2, by omega⟩
                        case measure => simp [intOf]; omega
                      · have I5 := Lib.hid (HIa.out.skip (HNX.out.trans (if_neg hb)))
                        cases ok
                        · clear hb
                          go_wp2_with fail
                          go_roundw
                          case rel => exact ⟨k + 1, l, r3, by omega, by go_num, HLd.out, I5.out, Bi10, hr3, by omega⟩
                          case measure => simp [intOf]; omega
                        · cases also
                          · clear hb
                            go_wp2_with fail
                            go_roundw
                            case rel => exact ⟨k + 1, l, r3, by omega, by go_num, HLd.out, I5.out, Bi10, hr3, by omega⟩
                            case measure => simp [intOf]; omega
                          · exact absurd rfl hb
                  · obtain rfl : k = s.arcs.length := by omega
                    rw [List.drop_length] at hI
                    have HLe := Lib.hid hL; have I6 := Lib.hid hI
                    clear hL hI
                    go_wp2_with fail
                    go_roundg ((N - DD.length) * (AA + 1) + l.length)
                    case measure => omega
                    case rel => exact ⟨DD, l, nb, r3, it.at', rfl, rfl, by omega, HLe.out, I6.out⟩
end Go.Proofs.YtkmnacchiagipaaDoor
