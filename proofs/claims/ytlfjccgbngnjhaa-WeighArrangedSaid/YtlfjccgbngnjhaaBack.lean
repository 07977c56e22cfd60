/- reach.Back: what leads to each state. -/
/- reach.Back walked. -/
/- reach.Back called. -/
import Derived.Test.YtlfjccgbngnjhaaAhead
import Derived.Test.YtlfjccgbngnjhaaGrid
import Derived.Test.YtlfjccgbngnjhaaBackPlain
import Derived.Deep.RegionHeld3
import Derived.Test.YtlfjccgbngnjhaaRegionLast
namespace Go.Proofs.Ytlfjccgbngnjhaa
open Go.RowKit

abbrev encN (p : Nat) : List Value := [.int .i64 (p : Int)]
theorem encN_cells (l : List Nat) : l.flatMap encN = ncells l := by
  induction l with
  | nil => rfl
  | cons a l ih => simp only [List.flatMap_cons, ih, ncells, List.map_cons]; rfl
theorem eltInts : Elt Try.prog 91 44 (.slice none 0 0) 1 24 := ⟨Try.underlying91, by kernel_rfl, rfl, by omega⟩

/-- what Back's loops hold -/
structure BK (w1 wr : World) (n : Nat) (vs : List Value) (rows : List (List Nat)) (fv : Value) (es : List Nat) : Prop where
  grid : Grid encN 3 44 1 (w1.heap.size + 2) wr w1.heap.size vs rows
  bb : Blk wr (w1.heap.size + 1) #[.slice (some ⟨w1.heap.size, 0, none⟩) n n] 91
  fr : wr.ownsRow (w1.heap.size + 2) 3 1 fv es.length (ncells es)
  ap : ∀ i (h : i < vs.length), Apart fv vs[i]
  bel : Below w1.heap.size w1 wr

section
variable {w1 wr w' : World} {n : Nat} {vs : List Value} {rows : List (List Nat)} {fv : Value} {es : List Nat}
theorem BK.keep (h : BK w1 wr n vs rows fv es) (hb : Below wr.heap.size wr w') : BK w1 w' n vs rows fv es :=
  ⟨h.grid.keep hb, h.bb.step hb, own_below h.fr hb (Nat.le_refl _), h.ap, h.bel.trans (hb.mono h.bel.size)⟩
theorem BK.fv_ne (h : BK w1 wr n vs rows fv es) {b : Nat} (hb : b < w1.heap.size + 2) : fv.ownBlock ≠ some b := own_base h.fr hb
theorem BK.vs_ne (h : BK w1 wr n vs rows fv es) {i : Nat} (hi : i < vs.length) {b : Nat} (hb : b < w1.heap.size + 2) : vs[i].ownBlock ≠ some b := fun e => by
  have := (h.grid.block_lt hi e).1; omega
/-- what it began with grows -/
theorem BK.fromApp (h : BK w1 wr n vs rows fv es) (p : Nat) {v' : Value} {k : Nat} (hk : k = es.length + 1) (hg : wr.grownBy w' fv.ownBlock) (hx : w'.ownsRow (w1.heap.size + 2) 3 1 v' k (ncells es ++ [.int .i64 p]))
    (hat : ∀ b, v'.ownBlock = some b → fv.ownBlock = some b ∨ wr.heap.size ≤ b) : BK w1 w' n vs rows v' (es ++ [p]) := by
  refine ⟨h.grid.grown hg (h.fv_ne (by omega)) (fun i hi k hk => fun e => h.ap i hi k e hk), h.bb.grown hg (h.fv_ne (by omega)).symm, ?_, fun i hi b hb hb2 => ?_, ?_⟩
  · rw [ncells_snoc, List.length_append]; subst hk; exact hx
  · rcases hat b hb with h1 | h1
    · exact h.ap i hi b h1 hb2
    · have := (h.grid.block_lt hi hb2).2; omega
  · exact h.bel.grown hg h.bel.size (fun b hb => by have := (h.fr.lt b hb).1; omega)
/-- a row grows -/
theorem BK.rowApp (h : BK w1 wr n vs rows fv es) (q : Nat) (hq : q < rows.length) (p : Nat) {v' : Value} {k : Nat} (hk : k = rows[q].length + 1) (hg : wr.grownBy w' (vs[q]'(by rw [h.grid.len]; exact hq)).ownBlock)
    (hx : w'.ownsRow (w1.heap.size + 2) 3 1 v' k (rows[q].flatMap encN ++ encN p)) (hat : ∀ b, v'.ownBlock = some b → (vs[q]'(by rw [h.grid.len]; exact hq)).ownBlock = some b ∨ wr.heap.size ≤ b) :
    BK w1 (w'.setCell ⟨w1.heap.size, q, none⟩ v') n (vs.set q v') (rows.set q (rows[q] ++ [p])) fv es := by
  have hqv : q < vs.length := by rw [h.grid.len]; exact hq
  have hrow : ∀ b, (vs[q]).ownBlock = some b → w1.heap.size ≤ b := fun b hb => by have := (h.grid.block_lt hqv hb).1; omega
  refine ⟨h.grid.put q hq p hk hg hx hat, (h.bb.grown hg (h.vs_ne hqv (by omega)).symm).far (by simp) _, ?_, fun i hi b hb hb2 => ?_, ?_⟩
  · refine own_setCell (World.ownsRow.kept h.fr hg ?_) (h.fv_ne (by simp)) _
    cases hb : fv.ownBlock with
    | none => exact .inl rfl
    | some b => exact .inr (fun e => h.ap q hqv b hb e.symm)
  · by_cases e : q = i
    · subst e
      simp only [List.getElem_set_self] at hb2
      rcases hat b hb2 with h1 | h1
      · exact h.ap q hqv b hb h1
      · have := (h.fr.lt b hb).2; omega
    · rw [List.getElem_set_ne e] at hb2
      exact h.ap i (by simpa using hi) b hb hb2
  · exact (h.bel.grown hg h.bel.size hrow).setCell (Nat.le_refl _) _
end
end Go.Proofs.Ytlfjccgbngnjhaa

namespace Go.Proofs.Ytlfjccgbngnjhaa
open Go.RowKit

set_option maxRecDepth 100000 in
set_option maxHeartbeats 4000000 in
theorem back_next (w1 w : World) (n : Nat) (vs : List Value) (rows : List (List Nat)) (fv : Value) (es : List Nat) (h : BK w1 w n vs rows fv es) (hn : rows.length = n) (hn2 : n ≤ 60) (hr : ∀ l ∈ rows, l.length ≤ 400 ∧ ∀ p ∈ l, p < n) :
    NextOk w fv.ownBlock n 54 #[.pointer (some ⟨w1.heap.size + 1, 0, none⟩)] (fun q => rows.getD q []) := by
  intro W x tv q hq hF
  have HFS := Lib.hid hF
  have hqr : q < rows.length := by omega
  have hrq := hr _ (List.getElem_mem hqr)
  have gr : ∀ W', w.grownBy W' fv.ownBlock → Grid encN 3 44 1 (w1.heap.size + 2) W' w1.heap.size vs rows := fun W' hg => h.grid.grown hg (h.fv_ne (by omega)) (fun i hi k hk => fun e => h.ap i hi k e hk)
  have HG := Lib.hid gr
  have bb := h.bb.grown hF.grown (h.fv_ne (by omega)).symm
  have k1 := bb.cell; have l1 := bb.lt
  have hcell := (gr W hF.grown).cell q hqr
  have hqv : q < vs.length := by rw [h.grid.len]; exact hqr
  obtain ⟨A', c', hv, -, -⟩ := (gr W hF.grown).form q hqr
  rw [hv] at hcell
  have own : ∀ W', w.grownBy W' fv.ownBlock → W'.ownsRow (w1.heap.size + 2) 3 1 (.slice A' rows[q].length c') rows[q].length (ncells rows[q]) := fun W' hg => by
    rw [← hv, ← encN_cells]; exact (gr W' hg).own q hqr hqv
  have HOW := Lib.hid own
  have rdA := (Rd.of_own (own W hF.grown)).rdy
  have e0 : rows.getD q [] = rows[q] := by simp [List.getD_eq_getElem?_getD, hqr]
  have lG := World.block_lt_of_cell? _ _ hcell
  generalize rows[q] = l at *
  have E0 := Lib.hid e0
  have HRQ := Lib.hid hrq.2
  have hl := hrq.1
  have i0 : (0 : Int) ≤ ↑q := by omega
  have i1 : (↑q : Int) < ↑n := by omega
  clear h hr hrq gr bb own e0 hF hv
  go_enter Try.func54, Try.ntmps54
  go_wp2_with fail
  clear k1
  go_loopw [12] (fun i wr => ∃ (k : Nat) (tv' : Value), k ≤ l.length ∧ i = .int .i64 k ∧ FS w wr fv.ownBlock n (visits x (l.take k)) tv') (fun i _ => l.length - (intOf i).toNat)
  case atStart => exact ⟨0, tv, by omega, rfl, by simpa [visits] using HFS.out⟩
  case round =>
    obtain ⟨k, tv', hk, rfl, hF⟩ := hrel
    by_cases hlt : k < l.length
    · have hcellk := rdi_cell (Rd.of_own (HOW.out wr hF.grown)) k (by simpa using hlt)
      simp only [List.getElem_map] at hcellk
      have hpn := HRQ.out _ (List.getElem_mem hlt)
      have ht : l.take (k + 1) = l.take k ++ [l[k]] := List.take_succ_eq_append_getElem hlt
      generalize l[k] = p at *
      have HT := Lib.hid ht
      have HF := Lib.hid hF
      have lA := World.block_lt_of_cell? _ _ hcellk
      clear ht hF
      go_wp2_with fail
      refine (visit_any w _ fv.ownBlock n _ tv' HF.out p hpn (by omega)).mono ?_
      rintro e w4 ⟨rfl, tv4, hF4⟩
      have HF4 := Lib.hid hF4
      clear hF4
      go_wp2_with fail
      go_roundw
      case rel => exact ⟨k + 1, tv4, by omega, by go_num, by rw [HT.out, visits_snoc]; exact HF4.out⟩
      case measure => simp [intOf]; omega
    · have hke : l.take k = l := List.take_of_length_le (by omega)
      rw [hke] at hF
      have HF := Lib.hid hF
      clear hF hke
      go_wp2_with fail
      go_end0
      exact ⟨rfl, tv', by simp only [E0.out]; exact HF.out⟩
end Go.Proofs.Ytlfjccgbngnjhaa

namespace Go.Proofs.Ytlfjccgbngnjhaa
open Go.RowKit

theorem enterBack (x : Array Value) (W : World) : (callFunc 54 x).run Try.prog W = .ok (.enter 54 x) W := by simp [go_sem]

set_option maxRecDepth 100000 in
set_option maxHeartbeats 8000000 in
theorem Back_any (v : Value) (m : MachL) (w : World) (hm : MachAt w v m) (hv : Valid m) :
    Calls Try.prog 37 #[v] w fun e w' => ∃ sv, e = .returned (.tuple #[sv, .int .i64 0]) ∧ SeenAt w w' sv m.states.length (backOf m.states) (endsOf m.states) ∧ Below w.heap.size w w' := by
  have CH := Lib.hid (fun W hb => Check_ok v m W (hm.below hb) hv)
  have hto := Lib.hid (valid_to hv).1
  have hle := Lib.hid (valid_to hv).2
  have hton := Lib.hid (fun s hs a ha => (by have := (valid_to hv).1 s hs a ha; omega : (a : ArcL).to.toNat < m.states.length))
  obtain ⟨A, c, rfl, hS⟩ := hm
  have hsz := hv.size
  have har := hv.arcs
  have HS := Lib.hid hS
  have rd := hS.rdy
  have HL := Lib.hid (arcsOf_le m.states)
  clear hS hv
  have hC := enterBack
  generalize m.states = ss at *
  generalize m.start = st at *
  go_enter Try.func37, Try.ntmps37
  go_wp2_with fail
  refine (CH.out _ (by repeat' (first | exact Below.refl _ _ | assumption | refine Below.drew ?_ | refine Below.alloc ?_ (by first | omega | (simp; done) | (simp; omega)) _ | refine Below.setCell ?_ (by first | omega | (simp; done) | (simp; omega)) _))).mono ?_
  rintro e w1 ⟨rfl, bel⟩
  have M1 : Hid (Blk w1 w.heap.size #[.int .i64 st, .slice A ss.length c] 27) := Lib.hid (Blk.step (Blk.new' (by simp)) bel)
  have b1 : Below w.heap.size w w1 := ((Below.refl _ _).alloc (Nat.le_refl _) _).trans (bel.mono (by simp))
  have k1 := M1.out.cell; have l1 := M1.out.lt
  clear bel CH
  have hmk := run_make_elt eltInts w1 ss.length (by omega) (by omega) (by omega)
  simp only [Value.cells, Nat.mul_one, made_at, List.toArray_replicate] at hmk
  go_wp2_with fail
  have G0 : BK w1 ((w1.alloc (.cells (Array.replicate ss.length (.slice none 0 0)) 44)).alloc (.cells #[.slice (some ⟨w1.heap.size, 0, none⟩) ss.length ss.length] 91)) ss.length (List.replicate ss.length (.slice none 0 0)) (backRows ss 0) (.slice none 0 0) (endsUpto ss 0) :=
    ⟨by simpa only [backRows, List.range_zero, List.foldl_nil, List.toArray_replicate] using (Grid.made w1 ss.length).keep ((Below.refl _ _).alloc (Nat.le_refl _) _), Blk.new' (by simp), by simpa [endsUpto] using World.ownsRow_nil _ _ _ _, fun i hi => apart_nil _, ((Below.refl _ _).alloc (Nat.le_refl _) _).alloc (by simp) _⟩
  generalize (w1.alloc (.cells (Array.replicate ss.length (.slice none 0 0)) 44)).alloc (.cells #[.slice (some ⟨w1.heap.size, 0, none⟩) ss.length ss.length] 91) = wl at *
  clear hmk
  go_loopw [6, 23] (fun fv i wr => ∃ (k : Nat) (vs : List Value), k ≤ ss.length ∧ i = .int .i64 k ∧ BK w1 wr ss.length vs (backRows ss k) fv (endsUpto ss k)) (fun _ i _ => ss.length - (intOf i).toNat)
  case atStart => exact ⟨0, _, by omega, rfl, G0⟩
  case round =>
    obtain ⟨k, vs, hk, rfl, hB⟩ := hrel
    have HB := Lib.hid hB
    have hel := endsUpto_len ss k
    have bw : Below w.heap.size w wr := b1.trans (hB.bel.mono b1.size)
    by_cases hlt : k < ss.length
    · have hSr := HS.out.below bw (Nat.le_refl _)
      have d0 := hSr.c0 k hlt
      obtain ⟨A', c', d1', hA'⟩ := HS.out.c1 k hlt
      have d1 := cell_keep bw (Nat.le_refl _) d1'
      have lA : blk A < wr.heap.size := World.block_lt_of_cell? _ _ d0
      have hes := endsUpto_snoc ss k hlt
      have hbr := backRows_snoc ss k hlt
      have hvs := hto.out _ (List.getElem_mem hlt)
      have hls := hle.out _ (List.getElem_mem hlt)
      have hbl := backRows_len ss k
      have hrl : ∀ q, ((backRows ss k).getD q []).length ≤ 400 := fun q => by
        have := backRows_row ss q k hk
        have := HL.out k
        unfold arcsOf at *
        omega
      generalize ss[k] = s at *
      have HA : Hid (ArcsAt w A' s.arcs) := Lib.hid hA'
      have rdA := hA'.rdy
      have HES := Lib.hid hes; have HBR := Lib.hid hbr; have HVS := Lib.hid hvs; have HRL := Lib.hid hrl; have HBL := Lib.hid hbl
      have zk : (k : Int) ≤ 60 := by omega
      clear hSr hA' d1' hes hbr hvs hrl hbl hB
      obtain ⟨wo, rfl⟩ : ∃ wo : World, wo = wr := ⟨_, rfl⟩
      generalize backRows ss k = rows at *
      generalize endsUpto ss k = es at *
      have S0 : Blk (wo.alloc (.cells #[.int .i64 s.final, .slice A' s.arcs.length c'] 39)) wo.heap.size #[.int .i64 s.final, .slice A' s.arcs.length c'] 39 := Blk.new _ _ _
      have HB2 := Lib.hid (HB.out.keep ((Below.refl _ _).alloc (Nat.le_refl _) (.cells #[.int .i64 s.final, .slice A' s.arcs.length c'] 39)))
      go_upto_if 30 with fail
      go_cut [6] (fun v wx => BK w1 wx ss.length vs rows v (endsUpto ss (k + 1)) ∧ Blk wx wo.heap.size #[.int .i64 s.final, .slice A' s.arcs.length c'] 39)
      case first =>
        by_cases hinf : s.final = 1000000001
        · have hinf2 : (s.final != 1000000001) = false := by simp [hinf]
          have HE := Lib.hid (show endsUpto ss (k + 1) = es by rw [HES.out, if_pos hinf])
          clear hinf
          go_wp2_with fail
          go_meet
          case rel => exact ⟨by rw [HE.out]; exact HB2.out, S0⟩
        · have hinf2 : (s.final != 1000000001) = true := by simpa using hinf
          have HE := Lib.hid (show endsUpto ss (k + 1) = es ++ [k] by rw [HES.out, if_neg hinf])
          clear hinf
          have HS0 := Lib.hid S0
          clear S0
          generalize wo.alloc (.cells #[.int .i64 s.final, .slice A' s.arcs.length c'] 39) = w5 at *
          go_wp2_with (at_builtin; refine wpList_app1 rfl _ _ rfl eltInt (w1.heap.size + 2) u6 es.length (ncells es) rfl w5 HB2.out.fr #[.int .i64 k] rfl w5.heap.size rfl rfl rfl (by simp [Value.oneCell']) (by omega) (by omega) (by have := HB2.out.bb.lt; omega) ?_; intro g cap w3 ho3 hg3 hat3 hlt3)
          go_meet
          case rel => 
            refine ⟨?_, ?_⟩
            · rw [HE.out]
              exact HB2.out.fromApp k rfl hg3 ho3 (fun b hb => by
                simp only [Value.ownBlock, Option.some.injEq] at hb
                subst hb
                rcases hat3 with h | h
                · exact .inl h
                · right; omega)
            · exact HS0.out.grown hg3 (own_lt HB.out.fr (Nat.le_refl _)).symm
      case rest =>
        obtain ⟨w6, rfl⟩ : ∃ wx : World, wx = wc := ⟨_, rfl⟩
        obtain ⟨hB6, hS6⟩ := hcut
        have HB6 := Lib.hid hB6
        have k5 := hS6.cell; have l5 := hS6.lt
        clear hB6 hS6 S0 d0 d1
        generalize hes2 : endsUpto ss (k + 1) = es' at *
        have HES2 := Lib.hid hes2; clear hes2
        go_wp2_with fail
        clear k5
        go_loopw [38] (fun i wr => ∃ (t : Nat) (vs' : List Value), t ≤ s.arcs.length ∧ i = .int .i64 t ∧ BK w1 wr ss.length vs' (addArcs rows k (s.arcs.take t)) u6 es') (fun i _ => s.arcs.length - (intOf i).toNat)
        case atStart => exact ⟨0, vs, by omega, rfl, by simpa [addArcs] using HB6.out⟩
        case round =>
          obtain ⟨t, vs', ht, rfl, hB⟩ := hrel
          have HBt := Lib.hid hB
          by_cases hlt2 : t < s.arcs.length
          · have bwr : Below w.heap.size w wr := b1.trans (hB.bel.mono b1.size)
            have hAr := HA.out.below bwr (Nat.le_refl _)
            have f0 := hAr.c0 t hlt2; have f1 := hAr.c1 t hlt2; have f2 := hAr.c2 t hlt2; have f3 := hAr.c3 t hlt2
            have hva := HVS.out _ (List.getElem_mem hlt2)
            have hsn := addArcs_snoc rows k (s.arcs.take t) s.arcs[t]
            rw [← List.take_succ_eq_append_getElem hlt2] at hsn
            have hrow := fun q => addArcs_row (s.arcs.take t) rows k q
            have hlen := addArcs_len (s.arcs.take t) rows k
            generalize s.arcs[t] = a at *
            obtain ⟨q, hq⟩ : ∃ q : Nat, a.to = q := ⟨a.to.toNat, by omega⟩
            have hq2 : a.to.toNat = q := by omega
            have hqn : q < ss.length := by omega
            rw [hq] at f3
            rw [hq2] at hsn
            have hrq := hrow q
            have hrq2 := HRL.out q
            have htl : (s.arcs.take t).length ≤ 400 := by simp; omega
            generalize hrt : addArcs rows k (s.arcs.take t) = rt at *
            have hqr : q < rt.length := by rw [hlen, HBL.out]; exact hqn
            have hgd : rt.getD q [] = rt[q] := by simp [List.getD_eq_getElem?_getD, hqr]
            rw [hgd] at hsn hrq
            have hqv : q < vs'.length := by rw [hB.grid.len]; exact hqr
            obtain ⟨A2, c2, hv2, hc2, hc3⟩ := hB.grid.form q hqr
            have hcell := hB.grid.cell q hqr
            rw [hv2] at hcell
            have hv3 : vs'[q]'hqv = .slice A2 rt[q].length c2 := hv2
            have hown := hB.grid.own q hqr hqv
            rw [hv3] at hown
            have HSN := Lib.hid hsn; have HOWN := Lib.hid hown; have HV3 := Lib.hid hv3
            have lA' := World.block_lt_of_cell? _ _ f0
            have lG := World.block_lt_of_cell? _ _ hcell
            have k6 := hB.bb.cell; have l6 := hB.bb.lt
            have ho0 := hB.grid.outer.froz
            have hrl5 : rt[q].length ≤ 800 := by omega
            have i0 : (0 : Int) ≤ ↑q := by omega
            have i1 : (↑q : Int) < ↑ss.length := by omega
            clear hAr hva hsn hrow hlen hq hq2 hrq hrq2 htl hrt hgd hown hB hv2 hv3
            obtain ⟨wi, rfl⟩ : ∃ wx : World, wx = wr := ⟨_, rfl⟩
            have HB7 := Lib.hid (HBt.out.keep ((Below.refl _ _).alloc (Nat.le_refl _) (.cells #[.int .i64 a.inn, .int .i64 a.out, .int .i64 a.wt, .int .i64 q] 42)))
            have A7 : Blk (wi.alloc (.cells #[.int .i64 a.inn, .int .i64 a.out, .int .i64 a.wt, .int .i64 q] 42)) wi.heap.size #[.int .i64 a.inn, .int .i64 a.out, .int .i64 a.wt, .int .i64 q] 42 := Blk.new _ _ _
            have O7 := Lib.hid (own_below HOWN.out ((Below.refl _ _).alloc (Nat.le_refl _) (.cells #[.int .i64 a.inn, .int .i64 a.out, .int .i64 a.wt, .int .i64 q] 42)) (Nat.le_refl _))
            have c7 := cell_keep ((Below.refl _ _).alloc (Nat.le_refl _) (.cells #[.int .i64 a.inn, .int .i64 a.out, .int .i64 a.wt, .int .i64 q] 42)) (Nat.le_refl _) hcell
            go_upto_region 14 with fail
            generalize wi.alloc (.cells #[.int .i64 a.inn, .int .i64 a.out, .int .i64 a.wt, .int .i64 q] 42) = w7 at *
            have k7 := A7.cell; have l7 := A7.lt
            have k8 := HB7.out.bb.cell; have l8 := HB7.out.bb.lt
            have f7 := HB7.out.grid.outer.froz
            have lG7 := World.block_lt_of_cell? _ _ c7
            have lGi : w1.heap.size < wi.heap.size := lG
            clear k6 l6 ho0 hcell lG f0 f1 f2 f3 lA'
            have K8 : Hid (w7.cell? ⟨w1.heap.size + 1, 0, none⟩ = some (.slice (some ⟨w1.heap.size, 0, none⟩) ss.length ss.length)) := Lib.hid (by simpa using k8 0)
            have K9 : Hid (w7.cell? ⟨wi.heap.size, 3, none⟩ = some (.int .i64 q)) := Lib.hid (by simpa using k7 3)
            have K10 := Lib.hid c7
            refine wp_region_noPanic ?_
            refine wp_region_last_drew (fun w' => w'.cell? ⟨w1.heap.size + 1, 0, none⟩ = some (.slice (some ⟨w1.heap.size, 0, none⟩) ss.length ss.length) ∧ w'.cell? ⟨wi.heap.size, 3, none⟩ = some (.int .i64 q) ∧ w'.cell? ⟨w1.heap.size, q, none⟩ = some (.slice A2 rt[q].length c2)) (by kernel_rfl) (by simp only [List.back?_toArray, List.getLast?_cons_cons, List.getLast?_singleton]; rfl) (by simp only [List.pop_toArray, List.dropLast_cons_cons, List.dropLast_singleton]; rfl) (by kernel_rfl) ⟨K8.out, K9.out, K10.out⟩ (fun hHeld => ?_)
            refine wpAnyH_take (i := 0) (v := ?v0) (by simp only [List.getElem?_toArray, List.getElem?_cons_zero]; rfl) (by kernel_rfl) (by kernel_rfl) (by kernel_rfl) (fun _ _ _ h => h) (Or.inl ⟨by rfl, ?h0⟩) hHeld ?r0
            case h0 => intro w hSw; (try dsimp only at hSw); go_simp; with_reducible rfl
            simp only [Act.put, List.setIfInBounds_toArray, List.set_cons_zero, List.set_cons_succ]
            refine wpAnyH_take (i := 1) (v := ?v1) (by simp only [List.getElem?_toArray, List.getElem?_cons_succ, List.getElem?_cons_zero]; rfl) (by kernel_rfl) (by kernel_rfl) (by kernel_rfl) (fun _ _ _ h => h) (Or.inl ⟨by rfl, ?h1⟩) hHeld ?r1
            case h1 => intro w hSw; (try dsimp only at hSw); go_simp; with_reducible rfl
            simp only [Act.put, List.setIfInBounds_toArray, List.set_cons_zero, List.set_cons_succ]
            refine wpAnyH_take (i := 2) (v := ?v2) (by simp only [List.getElem?_toArray, List.getElem?_cons_succ, List.getElem?_cons_zero]; rfl) (by kernel_rfl) (by kernel_rfl) (by kernel_rfl) (fun _ _ _ h => h) (Or.inl ⟨by rfl, ?h2⟩) hHeld ?r2
            case h2 => intro w hSw; (try dsimp only at hSw); go_simp; with_reducible rfl
            simp only [Act.put, List.setIfInBounds_toArray, List.set_cons_zero, List.set_cons_succ]
            refine wpAnyH_take (i := 3) (v := ?v3) (by simp only [List.getElem?_toArray, List.getElem?_cons_succ, List.getElem?_cons_zero]; rfl) (by kernel_rfl) (by kernel_rfl) (by kernel_rfl) (fun _ _ _ h => h) (Or.inl ⟨by rfl, ?h3⟩) hHeld ?r3
            case h3 => intro w hSw; (try dsimp only at hSw); go_simp; with_reducible rfl
            simp only [Act.put, List.setIfInBounds_toArray, List.set_cons_zero, List.set_cons_succ]
            refine wpAnyH_take (i := 4) (v := ?v4) (by simp only [List.getElem?_toArray, List.getElem?_cons_succ, List.getElem?_cons_zero]; rfl) (by kernel_rfl) (by kernel_rfl) (by kernel_rfl) (fun _ _ _ h => h) (Or.inl ⟨by rfl, ?h4⟩) hHeld ?r4
            case h4 => intro w hSw; (try dsimp only at hSw); go_simp; with_reducible rfl
            simp only [Act.put, List.setIfInBounds_toArray, List.set_cons_zero, List.set_cons_succ]
            refine wpAnyH_take (i := 5) (v := ?v5) (by simp only [List.getElem?_toArray, List.getElem?_cons_succ, List.getElem?_cons_zero]; rfl) (by kernel_rfl) (by kernel_rfl) (by kernel_rfl) (fun _ _ _ h => h) (Or.inl ⟨by rfl, ?h5⟩) hHeld ?r5
            case h5 => intro w hSw; (try dsimp only at hSw); go_simp; with_reducible rfl
            simp only [Act.put, List.setIfInBounds_toArray, List.set_cons_zero, List.set_cons_succ]
            refine wpAnyH_take (i := 6) (v := ?v6) (by simp only [List.getElem?_toArray, List.getElem?_cons_succ, List.getElem?_cons_zero]; rfl) (by kernel_rfl) (by kernel_rfl) (by kernel_rfl) (fun _ _ _ h => h) (Or.inl ⟨by rfl, ?h6⟩) hHeld ?r6
            case h6 => intro w hSw; (try dsimp only at hSw); go_simp; with_reducible rfl
            simp only [Act.put, List.setIfInBounds_toArray, List.set_cons_zero, List.set_cons_succ]
            refine wpAnyH_take (i := 7) (v := ?v7) (by simp only [List.getElem?_toArray, List.getElem?_cons_succ, List.getElem?_cons_zero]; rfl) (by kernel_rfl) (by kernel_rfl) (by kernel_rfl) (fun _ _ _ h => h) (Or.inl ⟨by rfl, ?h7⟩) hHeld ?r7
            case h7 => intro w hSw; (try dsimp only at hSw); go_simp; with_reducible rfl
            simp only [Act.put, List.setIfInBounds_toArray, List.set_cons_zero, List.set_cons_succ]
            refine wpAnyH_take (i := 8) (v := ?v8) (by simp only [List.getElem?_toArray, List.getElem?_cons_succ, List.getElem?_cons_zero]; rfl) (by kernel_rfl) (by kernel_rfl) (by kernel_rfl) (fun _ _ _ h => h) (Or.inl ⟨by rfl, ?h8⟩) hHeld ?r8
            case h8 => intro w hSw; (try dsimp only at hSw); go_simp; with_reducible rfl
            simp only [Act.put, List.setIfInBounds_toArray, List.set_cons_zero, List.set_cons_succ]
            refine wpAnyH_ready (rs := [9]) (by kernel_rfl) (by simp) (AllReadyH.cons (by simp only [List.getElem?_toArray, List.getElem?_cons_succ, List.getElem?_cons_zero]; rfl) (fun K hK => ?s9) AllReadyH.nil)
            go_simp
            refine hK.out _ _ ⟨cell_keep (by repeat' (first | exact Below.refl _ _ | assumption | refine Below.drew ?_ | refine Below.alloc ?_ (by first | omega | (simp; done) | (simp; omega)) _ | refine Below.setCell ?_ (by first | omega | (simp; done) | (simp; omega)) _)) (Nat.le_refl _) K8.out, cell_keep (by repeat' (first | exact Below.refl _ _ | assumption | refine Below.drew ?_ | refine Below.alloc ?_ (by first | omega | (simp; done) | (simp; omega)) _ | refine Below.setCell ?_ (by first | omega | (simp; done) | (simp; omega)) _)) (Nat.le_refl _) K9.out, cell_keep (by repeat' (first | exact Below.refl _ _ | assumption | refine Below.drew ?_ | refine Below.alloc ?_ (by first | omega | (simp; done) | (simp; omega)) _ | refine Below.setCell ?_ (by first | omega | (simp; done) | (simp; omega)) _)) (Nat.le_refl _) K10.out⟩ (fun hHeld => ?_)
            clear hK K
            refine wpAnyH_ready (rs := [10]) (by kernel_rfl) (by simp) (AllReadyH.cons (by simp only [List.getElem?_toArray, List.getElem?_cons_succ, List.getElem?_cons_zero]; rfl) (fun K hK => ?s10) AllReadyH.nil)
            refine step_app1 (by rfl) _ _ (by rfl) eltInt (w1.heap.size + 2) (.slice A2 rt[q].length c2) _ _ (by rfl) (O7.out.alloc _) w7.heap.size #[.int .i64 k] (heap_alloc_new w7 _) (by rfl) (by rfl) (by simp [Value.oneCell']) (by omega) (by omega) (by simp; omega) ?_; intro g3 cap w8 ho8 hg8 hat8 hlt8; have z1 := hg8.cell (cell_keep (by repeat' (first | exact Below.refl _ _ | assumption | refine Below.drew ?_ | refine Below.alloc ?_ (by first | omega | (simp; done) | (simp; omega)) _ | refine Below.setCell ?_ (by first | omega | (simp; done) | (simp; omega)) _)) (Nat.le_refl _) K8.out) (own_base HOWN.out (b := w1.heap.size + 1) (by omega)).symm; have z2 := hg8.cell (cell_keep (by repeat' (first | exact Below.refl _ _ | assumption | refine Below.drew ?_ | refine Below.alloc ?_ (by first | omega | (simp; done) | (simp; omega)) _ | refine Below.setCell ?_ (by first | omega | (simp; done) | (simp; omega)) _)) (Nat.le_refl _) K9.out) (own_lt HOWN.out (Nat.le_refl _)).symm; have z3 := hg8.cell (cell_keep (by repeat' (first | exact Below.refl _ _ | assumption | refine Below.drew ?_ | refine Below.alloc ?_ (by first | omega | (simp; done) | (simp; omega)) _ | refine Below.setCell ?_ (by first | omega | (simp; done) | (simp; omega)) _)) (Nat.le_refl _) K10.out) (own_base HOWN.out (b := w1.heap.size) (by omega)).symm; have z4 := (Blk.grown (Blk.step HB7.out.grid.outer (by repeat' (first | exact Below.refl _ _ | assumption | refine Below.drew ?_ | refine Below.alloc ?_ (by first | omega | (simp; done) | (simp; omega)) _ | refine Below.setCell ?_ (by first | omega | (simp; done) | (simp; omega)) _))) hg8 (own_base HOWN.out (b := w1.heap.size) (by omega)).symm).froz q
            refine hK.out _ _ ⟨z1, z2, z3⟩ (fun hHeld => ?_)
            clear hK K
            simp only [Act.put, List.setIfInBounds_toArray, List.set_cons_zero, List.set_cons_succ]
            refine wpAnyH_take (i := 11) (v := ?v11) (by simp only [List.getElem?_toArray, List.getElem?_cons_succ, List.getElem?_cons_zero]; rfl) (by kernel_rfl) (by kernel_rfl) (by kernel_rfl) (fun _ _ _ h => h) (Or.inl ⟨by rfl, ?h11⟩) hHeld ?r11
            case h11 => intro w hSw; (try dsimp only at hSw); go_simp; with_reducible rfl
            simp only [Act.put, List.setIfInBounds_toArray, List.set_cons_zero, List.set_cons_succ]
            refine wpAnyH_done (by kernel_rfl) ?_ _
            show Oper.wp _ _ _ _ _ _
            go_simp
            refine NoPanic.normal ?_
            have hz := HB7.out
            clear z1 z2 z3 z4
            have hput : ∃ vs2, BK w1 (w8.setCell ⟨w1.heap.size, q, none⟩ (.slice (some ⟨g3, 0, none⟩) (rt[q].length + 1) cap)) ss.length vs2 (rt.set q (rt[q] ++ [k])) u6 es' := by
              have h8 : BK w1 (w7.alloc (.cells #[.int .i64 k] 3)).drew ss.length vs' rt u6 es' := HB7.out.keep (by repeat' (first | exact Below.refl _ _ | assumption | refine Below.drew ?_ | refine Below.alloc ?_ (by first | omega | (simp; done) | (simp; omega)) _ | refine Below.setCell ?_ (by first | omega | (simp; done) | (simp; omega)) _))
              refine ⟨_, h8.rowApp q hqr k rfl (by rw [HV3.out]; exact hg8) ho8 (fun b hb => ?_)⟩
              rw [HV3.out]
              simp only [Value.ownBlock, Option.some.injEq] at hb
              subst hb
              exact hat8.imp id (fun h => by omega)
            have HPUT := Lib.hid hput
            clear hput hz
            go_wp2_with fail
            go_roundw
            case rel => 
              obtain ⟨vs2, h2⟩ := HPUT.out
              exact ⟨t + 1, vs2, by omega, by go_num, by rw [HSN.out]; exact h2⟩
            case measure => simp [intOf]; omega
          · have hte : s.arcs.take t = s.arcs := List.take_of_length_le (by omega)
            rw [hte, ← HBR.out] at hB
            have HBn := Lib.hid hB
            clear hB hte HBt
            go_wp2_with fail
            go_roundw
            case rel => exact ⟨k + 1, vs', by omega, by go_num, by rw [HES2.out]; exact HBn.out⟩
            case measure => simp [intOf]; omega
    · have hke : k = ss.length := by omega
      have h1 : BK w1 wr ss.length vs (backRows ss ss.length) u6 (endsOf ss) := by rw [hke] at hB; exact hB
      have H1 := Lib.hid h1
      have hM := M1.out.below hB.bel l1
      have k9 := hM.cell; have l9 := hM.lt
      have hok := backRows_ok ss hton.out (by unfold arcsOf at har; exact har)
      have HOK := Lib.hid hok
      have hlen : (endsOf ss).length ≤ 100 := Nat.le_trans (endsUpto_len ss ss.length) (by omega)
      clear hB h1 HB hM hel hok k1 G0
      go_wp2_with fail
      refine (flood_any wr ss.length u6 (endsOf ss) 54 _ (backOf ss) (by omega) hlen (fun p hp => endsUpto_lt ss ss.length p hp) (own_mono H1.out.fr (Nat.zero_le _)) hC (back_next w1 wr ss.length vs _ u6 _ H1.out (backRows_len ss ss.length) hsz HOK.out) (fun q _ p hp => backOf_lt ss hton.out q p hp)).mono ?_
      rintro e w4 ⟨seen, rfl, hS, hl, hr, hg⟩
      have HS4 := Lib.hid hS; have HL4 := Lib.hid hl; have HR4 := Lib.hid hr
      have b4 : Below w.heap.size w w4 := bw.grown hg bw.size (fun b hb => by have := (H1.out.fr.lt b hb).1; have := b1.size; omega)
      have hwr := bw.size
      clear hS hl hr hg
      go_wp2_with fail
      go_ret2
      exact ⟨_, rfl, ⟨_, seen, rfl, HS4.out, hwr, HL4.out, HR4.out⟩, b4⟩
end Go.Proofs.Ytlfjccgbngnjhaa
