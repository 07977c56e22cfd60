/- best.Best. -/
import Derived.Test.YtikkmoleneioeaaBestPlain
import Derived.Test.YtikkmoleneioeaaBestEnds
import Derived.Test.YtikkmoleneioeaaLeast
import Derived.Test.YtikkmoleneioeaaIntArg
import Derived.Deep.QuietTactic
import Derived.BigQuiet
import Derived.WalkMore
namespace Go.Proofs.Ytikkmoleneioeaa
open Go.RowKit

theorem blk_ne {w : World} {B b n sz : Nat} {e t : TypeId} {v : Value} {xs : List Value} {cs : Array Value} (hr : w.ownsRow B e sz v n xs) (hb : Blk w b cs t) (hne : t ≠ e) : v.ownBlock ≠ some b := by
  intro hv
  rcases hr.2 with ⟨rfl, _⟩ | ⟨g, cap, cur, rfl, _, hg, _⟩
  · simp [Value.ownBlock] at hv
  · simp [Value.ownBlock] at hv
    subst hv
    unfold Blk at hb
    rw [hb] at hg
    simp at hg
    exact hne hg.2
theorem blk_grown {w w' : World} {B b n sz : Nat} {e t : TypeId} {v : Value} {xs : List Value} {cs : Array Value} (hr : w.ownsRow B e sz v n xs) (hb : Blk w b cs t) (hne : t ≠ e) (hg : w.grownBy w' v.ownBlock) : Blk w' b cs t :=
  hb.grown hg (fun e => blk_ne hr hb hne e.symm)
/-- Best's memory -/
structure PTW (w : World) (bt pb : Nat) (A : Option Addr) (n c : Nat) (st D : Int) (L : List (Int × Int)) (W : World) (av : Value) (l : List Int) : Prop where
  mb : Blk W w.heap.size #[.int .i64 st, .slice A n c] 28
  rb : Blk W (w.heap.size + 1) #[.int .i64 0, .slice none 0 0] 54
  tb : Blk W bt (twA L) 99
  xb : Blk W pb #[.int .i64 D, av] 54
  own : W.ownsRow w.heap.size 3 1 av l.length (icells l)
  bel : Below w.heap.size w W
  hp : w.heap.size + 2 ≤ pb
section
variable {w W W' : World} {bt pb n c : Nat} {A : Option Addr} {st D : Int} {L : List (Int × Int)} {av : Value} {l : List Int}
theorem PTW.keep (h : PTW w bt pb A n c st D L W av l) (hb : Below W.heap.size W W') : PTW w bt pb A n c st D L W' av l :=
  ⟨h.mb.step hb, h.rb.step hb, h.tb.step hb, h.xb.step hb, own_below h.own hb (Nat.le_refl _), h.bel.trans (hb.mono h.bel.size), h.hp⟩
theorem PTW.app (h : PTW w bt pb A n c st D L W av l) (hg : W.grownBy W' av.ownBlock) (i : Int) {g cap : Nat} (ho : W'.ownsRow w.heap.size 3 1 (.slice (some ⟨g, 0, none⟩) (l.length + 1) cap) (l.length + 1) (icells l ++ [.int .i64 i])) :
    PTW w bt pb A n c st D L (W'.setCell ⟨pb, 1, none⟩ (.slice (some ⟨g, 0, none⟩) (l.length + 1) cap)) (.slice (some ⟨g, 0, none⟩) (l.length + 1) cap) (l ++ [i]) := by
  have hp := h.hp
  have p1 := blk_grown h.own h.xb (by decide) hg
  have hgp : g ≠ pb := fun e => blk_ne ho p1 (by decide) (by rw [e]; rfl)
  have e : icells (l ++ [i]) = icells l ++ [.int .i64 i] := by simp [icells]
  have hbt : bt ≠ pb := fun e => by
    have h1 := h.tb; have h2 := h.xb
    unfold Blk at h1 h2
    rw [e, h2] at h1
    simp at h1
  refine ⟨(blk_grown h.own h.mb (by decide) hg).far (by simp; omega) _, (blk_grown h.own h.rb (by decide) hg).far (by simp; omega) _, (blk_grown h.own h.tb (by decide) hg).far (by simpa using hbt) _, ?_, ?_, ?_, hp⟩
  · exact (p1.put 1 _).eq (by simp)
  · rw [e, List.length_append]
    exact own_setCell ho (by simpa [Value.ownBlock] using hgp) _
  · exact (h.bel.grown hg (Nat.le_trans h.bel.size (Nat.le_refl _)) (fun k hk => by have := h.own.lt k hk; omega)).setCell (by simp; omega) _
end
/-- what Best answers -/
def BestR (w w' : World) (m : MachL) (s : Nat) (e : Ending) : Prop := (e = .returned (.tuple #[.agg #[.int .i64 0, .slice none 0 0], .int .i64 12]) ∧ ∀ A B, ¬ Tw m s A B) ∨
  ∃ (D : Int) (av : Value) (l : List Int) (t : Trail) (z : StateL), e = .returned (.tuple #[.agg #[.int .i64 D, av], .int .i64 0]) ∧ w'.ownsRow w.heap.size 3 1 av l.length (icells l) ∧ trun m s l = some t ∧ m.states[t.q]? = some z ∧ z.final ≠ 1000000001 ∧ t.c + z.final = D ∧ 0 ≤ D ∧ D ≤ 100000000 ∧
    (∀ A B, Tw m s A B → lle (D, (l.length : Int)) (A, B)) ∧ l.length < m.states.length

set_option maxRecDepth 100000 in
set_option maxHeartbeats 8000000 in
theorem Best_any (v : Value) (m : MachL) (w : World) (hm : MachAt w v m) (hv : Valid m) (hs : Small m) (h0 : 0 ≤ m.start) :
    Calls Try.prog 22 #[v] w fun e w' => BestR w w' m m.start.toNat e ∧ Below w.heap.size w w' := by
  have hbs : BSmall m := hs
  have LE := Lib.hid (fun W (hb : Below w.heap.size w W) => Least_any v m W (hm.below hb) hv (ends_small hv hs) h0)
  have BE := Lib.hid (fun W (hb : Below w.heap.size w W) => bends_any v m W (hm.below hb) hv hbs)
  have HDS := Lib.hid (fun D hD => dist_small (ends_small' hv hs) (q := m.start.toNat) (d := D) hD)
  obtain ⟨A, c, rfl, hS⟩ := hm
  have hsz := hv.size; have hst1 := hv.s1
  have HS := Lib.hid hS; have HV := Lib.hid hv; have HSM := Lib.hid hbs
  have rd := hS.rdy
  have HAL := Lib.hid (fun (s : StateL) (hs : s ∈ m.states) => (show s.arcs.length ≤ 400 by have h3 := hv.arcs; have := arcs_le_of m.states s hs; omega))
  obtain ⟨sn, hsn⟩ : ∃ sn : Nat, m.start = sn := ⟨m.start.toNat, by omega⟩
  have hsn2 : m.start.toNat = sn := by omega
  have hsl : sn < m.states.length := by omega
  rw [hsn2] at HDS LE ⊢
  rw [hsn] at LE BE ⊢
  clear hS hv hs hbs hsn hsn2 h0 hst1
  go_enter Try.func22, Try.ntmps22
  go_wp2_with fail
  go_step3
  go_wp2_with fail
  refine (LE.out _ (by repeat' (first | exact Below.refl _ _ | assumption | refine Below.drew ?_ | refine Below.alloc ?_ (by first | omega | (simp; done) | (simp; omega)) _ | refine Below.setCell ?_ (by first | omega | (simp; done) | (simp; omega)) _))).mono ?_; rintro e w1 ⟨D, rfl, hD, r1⟩
  have hDD := HDS.out D hD
  have M1 : Blk w1 w.heap.size #[.int .i64 sn, .slice A m.states.length c] 28 := Blk.step ((Blk.new' rfl).alloc _) r1
  have R1 : Blk w1 (w.heap.size + 1) #[.int .i64 0, .slice none 0 0] 54 := Blk.step (Blk.new' (by simp)) r1
  have b1 : Below w.heap.size w w1 := ((by repeat' (first | exact Below.refl _ _ | assumption | refine Below.drew ?_ | refine Below.alloc ?_ (by first | omega | (simp; done) | (simp; omega)) _ | refine Below.setCell ?_ (by first | omega | (simp; done) | (simp; omega)) _)) : Below w.heap.size w _).trans (r1.mono (by simp; omega))
  have km1 := M1.cell; have lm1 := M1.lt; have kr1 := R1.cell; have lr1 := R1.lt; have fr1 := R1.froz
  have HDD := Lib.hid hDD; have HM1 := Lib.hid M1; have HR1 := Lib.hid R1
  clear hD hDD r1 LE HDS M1 R1
  by_cases hDI : D = 1000000001
  · have e1 : (D == 1000000001) = true := by simpa using hDI
    have HN : Hid (∀ A B, ¬ Tw m sn A B) := Lib.hid (fun A B ht => by
      rcases HDD.out with h | h
      · exact h.2 _ (tw_way HV.out ht)
      · omega)
    subst hDI
    clear HDD
    go_wp2_with fail
    rw [Exit.noGoto_ret]
    refine bodyPost_ret (v := .tuple #[.agg #[.int .i64 0, .slice none 0 0], .int .i64 12]) (by simp [results, Try.results22, go_sem, *]) rfl ⟨.inl ⟨rfl, HN.out⟩, ?_⟩
    exact (b1.setCell (by simp) _).setCell (by simp) _
  · have e1 : (D == 1000000001) = false := by simpa using hDI
    clear kr1 lr1 fr1
    go_wp2_with fail
    refine (BE.out _ b1).mono ?_; rintro e w2 ⟨lv, rfl, ⟨bt, L, rfl, hT, hbt, hE, hC⟩, r2⟩
    obtain ⟨-, -, hne, hD1, hB0, hBn, hmin⟩ := (best_least hE hC HV.out HSM.out hsl HDD.out).resolve_left (fun h => hDI h.1)
    have b2 := b1.trans (r2.mono b1.size)
    have HT := Lib.hid hT; have HE := Lib.hid hE; have HC := Lib.hid hC; have HMIN := Lib.hid hmin; have HNE := Lib.hid hne; have HD1 := Lib.hid hD1
    have HM2 := Lib.hid (HM1.out.step r2); have HR2 := Lib.hid (HR1.out.step r2)
    have km2 := HM2.out.cell; have lm2 := HM2.out.lt
    have hDb : 0 ≤ D ∧ D ≤ 100000000 := by rcases HDD.out with h | h; exact absurd h.1 hDI; exact ⟨h.1, h.2.1⟩
    clear hT hE hC hmin hne hD1 r2 BE HDD km1 lm1 HM1 HR1
    go_wp2_with fail
    go_step3
    go_wp2_with fail
    have bA : Below w2.heap.size w2 (w2.alloc (.cells #[.int .i64 D, .slice none 0 0] 54)) := (Below.refl _ _).alloc (Nat.le_refl _) _
    have P0 : PTW w bt w2.heap.size A m.states.length c sn D L (w2.alloc (.cells #[.int .i64 D, .slice none 0 0] 54)) (.slice none 0 0) [] :=
      ⟨HM2.out.step bA, HR2.out.step bA, HT.out.step bA, Blk.new _ _ _, World.ownsRow_nil _ _ _ _, b2.trans (bA.mono b2.size), by have := HR2.out.lt; omega⟩
    have HP0 := Lib.hid P0
    clear P0 bA km2 lm2 HT HM2 HR2
    generalize w2.alloc (.cells #[.int .i64 D, .slice none 0 0] 54) = w3 at *
    generalize w2.heap.size = pb at *
    go_loopw [8] (fun qv wr => ∃ (q : Nat) (l : List Int) (av : Value) (t : Trail), qv = .int .i64 q ∧ PTW w bt pb A m.states.length c sn D L wr av l ∧ trun m sn l = some t ∧ t.q = q ∧ q < m.states.length ∧ tw L q ≠ none2 ∧ t.c + (tw L q).1 = D ∧ (l.length : Int) + (tw L q).2 = (tw L sn).2) (fun qv _ => (tw L (intOf qv).toNat).2.toNat)
    case atStart => exact ⟨sn, [], _, _, rfl, HP0.out, trun_nil _ _, rfl, hsl, HNE.out, by simp only [Int.zero_add]; exact HD1.out, by simp⟩
    case round =>
      obtain ⟨q, l, av, t, rfl, hP, htr, htq, hql, hne, hcD, hlB⟩ := hrel
      have HP := Lib.hid hP; have HTR := Lib.hid htr; have HTQ := Lib.hid htq; have HNQ := Lib.hid hne; have HCD := Lib.hid hcD; have HLB := Lib.hid hlB
      have hEl := HE.out.len
      have hbq := (HE.out.b HV.out HSM.out hql).resolve_left hne
      have kq0 := (hP.tb.cell (q * 2)).trans (twA_0 _ q (by omega)); have kq1 := (hP.tb.cell (q * 2 + 1)).trans (twA_1 _ q (by omega))
      have lt1 := hP.tb.lt; have km := hP.mb.cell; have lm := hP.mb.lt
      have i0 : (0 : Int) ≤ ↑q := by omega
      have i1 : (↑q : Int) < ↑m.states.length := by omega
      have hsq : m.states[q]? = some m.states[q] := List.getElem?_eq_getElem hql
      have HSQ := Lib.hid hsq
      have HQA : Hid ((tw L q).1 = (tw L q).1) := Lib.hid rfl
      have hB0' := hbq.2.2.1
      have hB60 := hbq.2.2.2.2
      have hA0' := hbq.1; have hA6 := hbq.2.1
      by_cases hB : 0 < (tw L q).2
      · have hSr := HS.out.below hP.bel (Nat.le_refl _)
        have d0 := hSr.c0 q hql
        obtain ⟨A', c', d1', hA'⟩ := HS.out.c1 q hql
        have d1 := cell_keep hP.bel (Nat.le_refl _) d1'
        have hal := HAL.out _ (List.getElem_mem hql)
        have hva := (HV.out.st _ (List.getElem_mem hql)).2
        have hstep := best_step HE.out HC.out HV.out HSM.out hsq hne hB
        have HSTEP := Lib.hid hstep; have HVA := Lib.hid hva; have HA := Lib.hid hA'
        have rdA := hA'.rdy
        generalize m.states[q] = s at *
        have lA := World.block_lt_of_cell? _ _ d0
        obtain ⟨wo, rfl⟩ : ∃ wx : World, wx = wr := ⟨_, rfl⟩
        clear hstep hva hA' d1' hSr hsq hP htr htq hne hcD hlB hbq
        generalize hqA : (tw L q).1 = qA at *
        generalize hqB : (tw L q).2 = qB at *
        have HQ1 := Lib.hid hqA; have HQ2 := Lib.hid hqB
        clear hqA hqB
        go_wp2_with fail
        clear kq0 kq1
        go_loopw [46, 8] (fun iv qv wx => ∃ i : Nat, i ≤ s.arcs.length ∧ iv = .int .i64 i ∧ qv = .int .i64 q ∧ Below wo.heap.size wo wx ∧ ∀ i' (h : i' < s.arcs.length), i' < i → ¬ (tw L s.arcs[i'].to.toNat ≠ none2 ∧ tw L q = (s.arcs[i'].wt + (tw L s.arcs[i'].to.toNat).1, 1 + (tw L s.arcs[i'].to.toNat).2))) (fun iv _ _ => s.arcs.length - (intOf iv).toNat)
        case atStart => exact ⟨0, by omega, rfl, rfl, Below.refl _ _, fun i' _ h => by omega⟩
        case round =>
          obtain ⟨i, hi, rfl, rfl, bel, hno⟩ := hrel
          have HNO := Lib.hid hno
          clear hno
          have j0 : (0 : Int) ≤ ↑i := by omega
          by_cases hlt2 : i < s.arcs.length
          · have j1 : (↑i : Int) < ↑s.arcs.length := by omega
            obtain ⟨wi, rfl⟩ : ∃ wx : World, wx = wr := ⟨_, rfl⟩
            have HPi := Lib.hid (HP.out.keep bel)
            have hAr := HA.out.below HPi.out.bel (Nat.le_refl _)
            have f0 := hAr.c0 i hlt2; have f1 := hAr.c1 i hlt2; have f2 := hAr.c2 i hlt2; have f3 := hAr.c3 i hlt2
            have hmem := List.getElem_mem hlt2
            have hva := HVA.out _ hmem
            have hok := fun (t0 : Trail) (h : m.states[t0.q]? = some s) => tstep_ok h hlt2
            have hno2 : (¬ (tw L s.arcs[i].to.toNat ≠ none2 ∧ tw L q = (s.arcs[i].wt + (tw L s.arcs[i].to.toNat).1, 1 + (tw L s.arcs[i].to.toNat).2))) → ∀ i' (h : i' < s.arcs.length), i' < i + 1 → ¬ (tw L s.arcs[i'].to.toNat ≠ none2 ∧ tw L q = (s.arcs[i'].wt + (tw L s.arcs[i'].to.toNat).1, 1 + (tw L s.arcs[i'].to.toNat).2)) := fun hn i' h h2 => by
              rcases Nat.lt_or_ge i' i with h3 | h3
              · exact HNO.out i' h h3
              · obtain rfl : i' = i := by omega
                exact hn
            have HOK := Lib.hid hok; have HNO2 := Lib.hid hno2
            clear hok hno2
            generalize s.arcs[i] = a at *
            have lA' := World.block_lt_of_cell? _ _ f0
            obtain ⟨tn, htn⟩ : ∃ tn : Nat, a.to = tn := ⟨a.to.toNat, by have := hva.t0; omega⟩
            have htn2 : a.to.toNat = tn := by omega
            have htl : tn < m.states.length := by have := hva.t1; omega
            have g1 := hva.w0
            have hp := HE.out.b HV.out HSM.out htl
            rw [htn] at f3
            have hfit : TwFits a.wt 1 (tw L tn).1 (tw L tn).2 := by
              rcases hp with e | ⟨e1, e2, e3, e4, e5⟩
              · rw [e]; exact ⟨.inr ⟨g1, hva.w1, by omega, by omega⟩, .inl ⟨rfl, rfl⟩, .inr (.inl ⟨rfl, rfl⟩)⟩
              · have hw6 := hva.w1
                have hwt6 : a.wt ≤ 1000000 := (HSM.out _ (List.mem_of_getElem? HSQ.out)).2 a hmem
                exact ⟨.inr ⟨g1, hva.w1, by omega, by omega⟩, .inr ⟨e1, by omega, e3, by omega⟩, .inr (.inr ⟨by omega, by omega⟩)⟩
            have hX : (tw L tn = none2 ∧ tA a.wt 1 (tw L tn).1 (tw L tn).2 = 1000000001 ∧ tB a.wt 1 (tw L tn).1 (tw L tn).2 = 1000000001) ∨ (tw L tn ≠ none2 ∧ tA a.wt 1 (tw L tn).1 (tw L tn).2 = a.wt + (tw L tn).1 ∧ tB a.wt 1 (tw L tn).1 (tw L tn).2 = 1 + (tw L tn).2) := by
              rcases hp with e | ⟨e1, e2, e3, e4, e5⟩
              · left
                unfold tA tB
                rw [if_pos (.inr (by rw [e]; exact ⟨rfl, rfl⟩)), if_pos (.inr (by rw [e]; exact ⟨rfl, rfl⟩))]
                exact ⟨e, rfl, rfl⟩
              · right
                unfold tA tB
                rw [if_neg (by omega), if_neg (by omega)]
                exact ⟨fun e => by rw [e] at e2; simp at e2, rfl, rfl⟩
            have htt := fun W => twTimes_ok a.wt 1 (tw L tn).1 (tw L tn).2 W hfit
            generalize tA a.wt 1 (tw L tn).1 (tw L tn).2 = X at *
            generalize tB a.wt 1 (tw L tn).1 (tw L tn).2 = Y at *
            have HX := Lib.hid hX; have HTT := Lib.hid htt; have HT2 := Lib.hid htn2
            have kt0 := (HPi.out.tb.cell (tn * 2)).trans (twA_0 _ tn (by omega)); have kt1 := (HPi.out.tb.cell (tn * 2 + 1)).trans (twA_1 _ tn (by omega))
            have i4 : (0 : Int) ≤ ↑tn := by omega
            have i5 : (↑tn : Int) < ↑m.states.length := by omega
            clear htt hfit hX hp hAr hva hmem htn htn2
            go_upto_region 13 with fail
            have X6 : Blk (wi.alloc (.cells #[.int .i64 a.inn, .int .i64 a.out, .int .i64 a.wt, .int .i64 tn] 65)) wi.heap.size #[.int .i64 a.inn, .int .i64 a.out, .int .i64 a.wt, .int .i64 tn] 65 := Blk.new _ _ _
            have b6 : Below wi.heap.size wi (wi.alloc (.cells #[.int .i64 a.inn, .int .i64 a.out, .int .i64 a.wt, .int .i64 tn] 65)) := (Below.refl _ _).alloc (Nat.le_refl _) _
            have HP7 := Lib.hid (HPi.out.keep b6)
            have m0 := cell_keep b6 (Nat.le_refl _) kt0; have m1 := cell_keep b6 (Nat.le_refl _) kt1
            have belo := bel.trans (b6.mono bel.size)
            clear kt0 kt1 f0 f1 f2 f3 lA' HPi b6 bel
            generalize wi.alloc (.cells #[.int .i64 a.inn, .int .i64 a.out, .int .i64 a.wt, .int .i64 tn] 65) = w6 at *
            have q2 : w6.cell? ⟨wi.heap.size, 2, none⟩ = some (.int .i64 a.wt) := X6.cell 2
            have q3 : w6.cell? ⟨wi.heap.size, 3, none⟩ = some (.int .i64 tn) := X6.cell 3
            have HX6 := Lib.hid X6
            clear X6
            generalize hpA : (tw L tn).1 = pA at *
            generalize hpB : (tw L tn).2 = pB at *
            have HPA := Lib.hid hpA; have HPB := Lib.hid hpB
            clear hpA hpB
            generalize wi.heap.size = ab at *
            have KS : ∀ W, Below w6.heap.size w6 W → W.cell? ⟨ab, 2, none⟩ = some (.int .i64 a.wt) ∧ W.cell? ⟨ab, 3, none⟩ = some (.int .i64 tn) ∧ W.cell? ⟨bt, tn * 2, none⟩ = some (.int .i64 pA) ∧ W.cell? ⟨bt, tn * 2 + 1, none⟩ = some (.int .i64 pB) ∧ Below w6.heap.size w6 W := fun W q => ⟨cellB q q2, cellB q q3, cellB q m0, cellB q m1, q⟩
            go_cut [11, 12] (fun tv ev wx => ∃ tb9, tv = .pointer (some ⟨tb9, 0, none⟩) ∧ ev = .int .i64 0 ∧ Blk wx tb9 #[.int .i64 X, .int .i64 Y] 99 ∧ Below w6.heap.size w6 wx ∧ w6.heap.size ≤ tb9)
            case first =>
              go_region_held3 (fun w' => w'.cell? ⟨ab, 2, none⟩ = some (.int .i64 a.wt) ∧ w'.cell? ⟨ab, 3, none⟩ = some (.int .i64 tn) ∧ w'.cell? ⟨bt, tn * 2, none⟩ = some (.int .i64 pA) ∧ w'.cell? ⟨bt, tn * 2 + 1, none⟩ = some (.int .i64 pB) ∧ Below w6.heap.size w6 w') (first | (exact KS _ (Below.refl _ _).drew) | (refine KS _ ?_; (try go_split_ands); first | exact Below.step (a := w6) (by assumption) bn | (repeat' (first | assumption | exact Below.step (a := w6) (by assumption) bn | refine Below.alloc ?_ (Below.size (show Below w6.heap.size w6 _ by first | assumption | exact Below.step (a := w6) (by assumption) bn)) _ | refine Below.setCell ?_ (by first | exact Nat.le_refl _ | exact Below.size (show Below w6.heap.size w6 _ by first | assumption | exact Below.step (a := w6) (by assumption) bn)) _ | refine Below.drew ?_)))) (first | (go_at_call 40; go_split_ands; refine (HTT.out _).mono ?_; rintro e wn ⟨rfl, bn⟩; obtain ⟨c1, f1⟩ := bcell bn; have zs := bn.size; (try simp at zs); (try have y0 : w6.heap.size < wn.heap.size := by omega)))
              all_goals
                go_wp2_with fail
                go_meet
                case rel =>
                  first
                  | exact ⟨_, rfl, rfl, Blk.new _ _ _, by go_split_ands; assumption, by omega⟩
                  | exact ⟨w6.heap.size, rfl, rfl, ((Blk.step (Blk.drew (Blk.new' rfl)) bn).put 0 _).put 1 _, by go_split_ands; assumption, Nat.le_refl _⟩
            case rest =>
              obtain ⟨tb9, rfl, rfl, X9, b9, htb9⟩ := hcut
              obtain ⟨w9, rfl⟩ : ∃ wx : World, wx = wc := ⟨_, rfl⟩
              have HP9 := Lib.hid (HP7.out.keep b9)
              have HX69 := Lib.hid (HX6.out.step b9)
              have belo9 := belo.trans (b9.mono belo.size)
              clear b9 HP7 HTT q2 q3 KS m0 m1 HX6 belo
              have k9 := X9.cell; have l9 := X9.lt
              have n0 := (HP9.out.tb.cell (q * 2)).trans (twA_0 _ q (by omega)); have n1 := (HP9.out.tb.cell (q * 2 + 1)).trans (twA_1 _ q (by omega))
              rw [HQ1.out] at n0
              rw [HQ2.out] at n1
              have lb9 := HP9.out.tb.lt
              go_upto_region 14 with fail
              by_cases hm1 : X = qA ∧ Y = qB
              · have hmt := best_match (L := L) (q := q) (tn := tn) (wt := a.wt) (X := X) (Y := Y) HNQ.out (by rw [HPA.out, HPB.out]; exact HX.out) (by rw [HQ1.out]; exact hm1.1) (by rw [HQ2.out]; exact hm1.2)
                have HMT := Lib.hid hmt
                have hlls := HLB.out
                have hll : l.length < 1000 := by omega
                have e5 : (X == qA) = true := by simpa using hm1.1
                have e6 : (Y == qB) = true := by simpa using hm1.2
                obtain ⟨h5, h6⟩ := hm1
                have hok := HOK.out t (by rw [HTQ.out]; exact HSQ.out)
                have htr2 : trun m sn (l ++ [(i : Int)]) = some ⟨tn, t.c + a.wt, t.x ++ pre1 a.inn, t.y ++ pre1 a.out⟩ := by rw [trun_snoc, HTR.out, hok, HT2.out]
                have HTR2 := Lib.hid htr2; have HE5 := Lib.hid h5; have HE6 := Lib.hid h6
                clear hmt hok htr2 hlls h5 h6
                go_quiet (fail)
                have HPd := Lib.hid (HP9.out.keep (below_drewN w9 nq)); have HXd := Lib.hid (HX69.out.step (below_drewN w9 nq))
                clear HP9 HX69 k9 l9 n0 n1 lb9 belo9 X9
                generalize w9.drewN nq = wd at *
                obtain ⟨Av, cv, rfl, -, -⟩ := own_form HPd.out.own
                have kp := HPd.out.xb.cell; have lp := HPd.out.xb.lt; have fp := HPd.out.xb.froz
                have habp : ¬ ab = pb := fun e => by
                  have h1 := HXd.out; have h2 := HPd.out.xb
                  unfold Blk at h1 h2
                  rw [e, h2] at h1
                  simp at h1
                go_wp2_with (at_builtin; refine wpList_app1 rfl _ _ rfl eltInt w.heap.size (.slice Av l.length cv) l.length (icells l) rfl wd HPd.out.own #[.int .i64 i] rfl wd.heap.size rfl rfl rfl (by simp [Value.oneCell']) (by omega) (by omega) HPd.out.bel.size ?_; intro g cap w10 hown hg hat hlt5; have kx := (blk_grown HPd.out.own HPd.out.xb (by decide) hg).cell; have fx := (blk_grown HPd.out.own HPd.out.xb (by decide) hg).froz; have lx := (blk_grown HPd.out.own HPd.out.xb (by decide) hg).lt; have ka := (blk_grown HPd.out.own HXd.out (by decide) hg).cell; have la := (blk_grown HPd.out.own HXd.out (by decide) hg).lt)
                have hz := HPd.out.app hg i hown
                have HZ := Lib.hid hz
                clear hz hown hg hat hlt5 kp lp fp
                go_roundw
                case rel =>
                  obtain ⟨g5, g6, g7⟩ := HMT.out
                  refine ⟨tn, l ++ [(i : Int)], _, _, rfl, HZ.out, HTR2.out, rfl, htl, g5, ?_, ?_⟩
                  · have h1 := HCD.out; have h2 := HQ1.out
                    simp only
                    omega
                  · have h1 := HLB.out; have h2 := HQ2.out
                    rw [List.length_append, List.length_singleton]
                    omega
                case measure =>
                  obtain ⟨g5, g6, g7⟩ := HMT.out
                  have g8 := (HE.out.b HV.out HSM.out htl).resolve_left g5
                  have h2 := HQ2.out
                  simp [intOf]
                  omega
              · have hnm : ¬ (tw L a.to.toNat ≠ none2 ∧ tw L q = (a.wt + (tw L a.to.toNat).1, 1 + (tw L a.to.toNat).2)) := fun ⟨h1, h2⟩ => hm1 (by
                  rw [HT2.out] at h1 h2
                  have h3 := HX.out.resolve_left (fun h => h1 h.1)
                  have h4 := congrArg Prod.fst h2; have h5 := congrArg Prod.snd h2
                  simp only at h4 h5
                  rw [HQ1.out, HPA.out] at h4
                  rw [HQ2.out, HPB.out] at h5
                  omega)
                have HNM := Lib.hid (HNO2.out hnm)
                have hcs : (X == qA) = false ∨ ((X == qA) = true ∧ (Y == qB) = false) := by
                  by_cases h : X = qA
                  · right; exact ⟨by simpa using h, by simp; exact fun h2 => hm1 ⟨h, h2⟩⟩
                  · left; simpa using h
                clear hnm hm1
                rcases hcs with g5 | ⟨g5, g6⟩
                all_goals
                  go_quiet (fail)
                  go_wp2_with fail
                  go_roundw
                  case rel => exact ⟨i + 1, by omega, by go_num, rfl, Below.step belo9 (below_drewN _ _), HNM.out⟩
                  case measure => simp [intOf]; omega
          · obtain rfl : i = s.arcs.length := by omega
            obtain ⟨i', hi', h1, h2⟩ := HSTEP.out
            exact absurd ⟨h1, h2⟩ (HNO.out i' hi' hi')
      · have hend := best_end HE.out HV.out hsq hne (by omega)
        obtain ⟨hf1, hf2⟩ := hend
        have hqB : (tw L q).2 = 0 := by omega
        have HR : Hid (trun m sn l = some t ∧ m.states[t.q]? = some m.states[q] ∧ m.states[q].final ≠ 1000000001 ∧ t.c + m.states[q].final = D) := Lib.hid ⟨htr, by rw [htq]; exact hsq, hf1, by rw [hf2]; exact hcD⟩
        have HMN : Hid (∀ A B, Tw m sn A B → lle (D, (l.length : Int)) (A, B)) := Lib.hid (fun A B ht => by
          have h := HMIN.out A B ht
          have e : tw L sn = (D, (l.length : Int)) := Prod.ext (by simp only; exact HD1.out) (by simp only; omega)
          rw [e] at h; exact h)
        have hll : l.length < m.states.length := by omega
        have krb := hP.rb.cell; have lrb := hP.rb.lt; have frb := hP.rb.froz
        have kpb := hP.xb.cell; have lpb := hP.xb.lt
        have hB' : ¬ 0 < (tw L q).2 := hB
        have hown := hP.own
        obtain ⟨Av, cv, rfl, -, -⟩ := own_form hown
        have hpp := hP.hp
        clear hP htr htq hne hcD hlB hbq hf1 hf2 hsq hown
        generalize (tw L q).1 = qA at *
        generalize (tw L q).2 = qB at *
        go_wp2_with fail
        refine bodyPost_ret (v := .tuple #[.agg #[.int .i64 D, .slice Av l.length cv], .int .i64 0]) (by simp [results, Try.results22, go_sem, *]) rfl ⟨.inr ⟨D, _, l, t, m.states[q], rfl, ?_, HR.out.1, HR.out.2.1, HR.out.2.2.1, HR.out.2.2.2, hDb.1, hDb.2, HMN.out, hll⟩, ?_⟩
        · have hb2 := blk_ne HP.out.own HP.out.rb (by decide)
          exact own_setCell (own_setCell HP.out.own hb2 _) hb2 _
        · exact (HP.out.bel.setCell (by simp) _).setCell (by simp) _
end Go.Proofs.Ytikkmoleneioeaa
