/- push.Push. -/
import Derived.Test.YtndajklppipckaaPushPlain
import Derived.Test.YtndajklppipckaaMemWt
import Derived.Test.YtndajklppipckaaEnds
import Derived.StillTailTactics
import Derived.RegionTactic
import Derived.LoopTactic
import Derived.IntWalk
import Derived.Deep.DeepCutAuto
import Derived.Deep.CutBlock
namespace Go.Proofs.Ytndajklppipckaa
open Go.RowKit

/-- Push's memory -/
structure PWS (w : World) (Mb bf : Nat) (st : Int) (A : Option Addr) (n cap : Nat) (d : List Int) (vs : List Value) (W : World) (ss : List StateL) : Prop where
  mb : Blk W Mb #[.int .i64 st, .slice A n cap] 31
  rb : Blk W (w.heap.size + 1) #[.int .i64 0, .slice none 0 0] 31
  eb : Blk W bf (icellsA d) 3
  own : OwnStV W (w.heap.size + 2) (.slice A n cap) vs ss
  ap : ApartAll vs
  bel : Below w.heap.size w W
  hM : w.heap.size + 2 ≤ Mb
  hf : w.heap.size + 2 ≤ bf
section
variable {w W W' : World} {Mb bf n cap : Nat} {st : Int} {A : Option Addr} {d : List Int} {vs : List Value} {ss : List StateL}
theorem PWS.keep (h : PWS w Mb bf st A n cap d vs W ss) (hb : Below W.heap.size W W') : PWS w Mb bf st A n cap d vs W' ss :=
  ⟨h.mb.step hb, h.rb.step hb, h.eb.step hb, h.own.below hb (Nat.le_refl _), h.ap, h.bel.trans (hb.mono h.bel.size), h.hM, h.hf⟩
theorem PWS.addr (h : PWS w Mb bf st A n cap d vs W ss) (h0 : 0 < ss.length) : ∃ g, A = some ⟨g, 0, none⟩ ∧ w.heap.size + 2 ≤ g ∧ g < W.heap.size ∧ g ≠ Mb ∧ g ≠ bf ∧ n = ss.length := by
  obtain ⟨g, c, e, h1, h2, -⟩ := h.own.addr h0
  simp at e
  obtain ⟨e1, e2, -⟩ := e
  have k1 := own_blk_ne h.own.row h.mb (by decide)
  have k2 := own_blk_ne h.own.row h.eb (by decide)
  subst e1
  exact ⟨g, rfl, h1, h2, fun e => k1 (by rw [← e]; rfl), fun e => k2 (by rw [← e]; rfl), e2⟩
theorem PWS.setFinal (h : PWS w Mb bf st A n cap d vs W ss) (q : Nat) (hq : q < ss.length) {g : Nat} (hA : A = some ⟨g, 0, none⟩) (f : Int) : PWS w Mb bf st A n cap d vs (W.setCell ⟨g, q * 2, none⟩ (.int .i64 f)) (ss.set q ⟨f, ss[q].arcs⟩) := by
  obtain ⟨g', e, h1, h2, h3, h4, -⟩ := h.addr (by omega)
  rw [hA] at e
  simp at e
  subst e
  subst hA
  exact ⟨h.mb.far (by simpa using fun e : Mb = g => h3 e.symm) _, h.rb.far (by simp; omega) _, h.eb.far (by simpa using fun e : bf = g => h4 e.symm) _, h.own.setFinal q hq f, h.ap, h.bel.setCell (by simp; omega) _, h.hM, h.hf⟩
theorem PWS.row (h : PWS w Mb bf st A n cap d vs W ss) (q : Nat) (hq : q < ss.length) (h0 : 0 < ss[q].arcs.length) : ∃ g c, ∃ hq' : q < vs.length, vs[q] = .slice (some ⟨g, 0, none⟩) ss[q].arcs.length c ∧ w.heap.size + 2 ≤ g ∧ g < W.heap.size ∧ g ≠ Mb ∧ g ≠ bf ∧ some g ≠ Option.map (·.block) A ∧ ∀ o, W.frozen? ⟨g, o, none⟩ = false := by
  have hq' : q < vs.length := by have := h.own.len; omega
  have k := h.own.arcs q hq hq'
  have k1 := own_blk_ne k h.mb (by decide)
  have k2 := own_blk_ne k h.eb (by decide)
  have k3 := own_ne k h.own.row (by decide)
  rcases k.2 with ⟨_, e⟩ | ⟨g, c, cur, e, hb, hg, _⟩
  · omega
  · refine ⟨g, c, hq', e, hb, (Array.getElem?_eq_some_iff.1 hg).1, ?_, ?_, ?_, fun o => by simp [World.frozen?, hg]⟩
    · intro e2; exact k1 (by rw [e, ← e2]; rfl)
    · intro e2; exact k2 (by rw [e, ← e2]; rfl)
    · intro e2
      rw [e] at k3
      rcases k3 with k3 | k3
      · simp [Value.ownBlock] at k3
      · cases A with
        | none => simp at e2
        | some a =>
          apply k3
          obtain ⟨g9, e9, _⟩ := h.addr (by omega)
          simp at e9
          subst e9
          simpa [Value.ownBlock] using e2
theorem PWS.setWt (h : PWS w Mb bf st A n cap d vs W ss) (q : Nat) (hq : q < ss.length) {g k c : Nat} (hq' : q < vs.length) (hv : vs[q] = .slice (some ⟨g, 0, none⟩) k c) (i : Nat) (hi : i < ss[q].arcs.length) (x : Int) :
    PWS w Mb bf st A n cap d vs (W.setCell ⟨g, i * 4 + 2, none⟩ (.int .i64 x)) (ss.set q ⟨ss[q].final, ss[q].arcs.set i ⟨ss[q].arcs[i].inn, ss[q].arcs[i].out, x, ss[q].arcs[i].to⟩⟩) := by
  obtain ⟨g', c', hq2, e, h1, h2, h3, h4, -, -⟩ := h.row q hq (by omega)
  rw [hv] at e
  simp at e
  obtain ⟨rfl, -, -⟩ := e
  exact ⟨h.mb.far (by simpa using fun e : Mb = g => h3 e.symm) _, h.rb.far (by simp; omega) _, h.eb.far (by simpa using fun e : bf = g => h4 e.symm) _, h.own.setWt h.ap q hq hq' hv i hi x, h.ap, h.bel.setCell (by simp; omega) _, h.hM, h.hf⟩
end
/-- what Push answers -/
def PushR (w w' : World) (t : MachL) (mv : Value) (n : Int) : Prop := ∃ d, OwnMach w' w.heap.size mv (pushM d t) ∧ DOk d t ∧ n = if t.start < 0 then 0 else d.getD t.start.toNat 0
set_option maxRecDepth 100000 in
set_option maxHeartbeats 8000000 in
theorem Push_any (v : Value) (m : MachL) (w : World) (hm : MachAt w v m) (hv : Valid m) (hs : ∀ q c, Way (endsFirst (trimM m)) (endsE (trimM m)) q c → ∃ c', Way (endsFirst (trimM m)) (endsE (trimM m)) q c' ∧ c' ≤ 100000000)
    (hw : ∀ s ∈ (trimM m).states, ∀ a ∈ s.arcs, a.wt ≤ 200000000) :
    Calls Try.prog 30 #[v] w fun e w' => ∃ mv n, e = .returned (.tuple #[mv, .int .i64 n, .int .i64 0]) ∧ PushR w w' (trimM m) mv n ∧ Below w.heap.size w w' := by
  have TR := Lib.hid (fun W (hb : Below w.heap.size w W) => Trim_anyA v m W (hm.below hb) hv)
  have htv := trim_valid hv
  have hall := fun i (hi : i < (trimM m).states.length) => (trim_all hv hi).2
  obtain ⟨A, c, rfl, hS⟩ := hm
  generalize trimM m = t at *
  generalize m.start = st0 at *
  generalize m.states.length = n0 at *
  have hsz := htv.size; have hst0 := htv.s0; have hst1 := htv.s1
  have HVT := Lib.hid htv; have HAL := Lib.hid hall; have HSM := Lib.hid hs; have HWT := Lib.hid hw
  clear hS hv htv hall hs hw
  go_enter Try.func30, Try.ntmps30
  go_wp2_with fail
  refine (TR.out _ (by repeat' (first | exact Below.refl _ _ | assumption | refine Below.drew ?_ | refine Below.alloc ?_ (by first | omega | (simp; done) | (simp; omega)) _ | refine Below.setCell ?_ (by first | omega | (simp; done) | (simp; omega)) _))).mono ?_; rintro e w1 ⟨mv, rfl, ⟨sv, vs, rfl, hO, hap⟩, r1⟩
  obtain ⟨A1, c1, rfl, -, -⟩ := own_form hO.row
  have hO := hO.mono (B' := w.heap.size + 2) (by simp)
  have X2 : Blk w1 (w.heap.size + 1) #[.int .i64 0, .slice none 0 0] 31 := Blk.step (Blk.new' (by simp)) r1
  have b1 : Below w.heap.size w w1 := ((by repeat' (first | exact Below.refl _ _ | assumption | refine Below.drew ?_ | refine Below.alloc ?_ (by first | omega | (simp; done) | (simp; omega)) _ | refine Below.setCell ?_ (by first | omega | (simp; done) | (simp; omega)) _)) : Below w.heap.size w _).trans (r1.mono (by simp; omega))
  have hsz1 : w.heap.size + 2 ≤ w1.heap.size := by have := r1.size; simp at this; omega
  have X5 : Blk (w1.alloc (.cells #[.int .i64 t.start, .slice A1 t.states.length c1] 31)) w1.heap.size #[.int .i64 t.start, .slice A1 t.states.length c1] 31 := Blk.new' rfl
  have bA : Below w1.heap.size w1 (w1.alloc (.cells #[.int .i64 t.start, .slice A1 t.states.length c1] 31)) := (Below.refl _ _).alloc (Nat.le_refl _) _
  have hO2 := Lib.hid (hO.below bA (Nat.le_refl _)); have X22 := Lib.hid (X2.step bA); have HAP := Lib.hid hap; have X52 := Lib.hid X5
  have b2 := b1.trans (bA.mono b1.size)
  clear r1 TR hO X2 hap X5 b1
  go_wp2_with fail
  generalize w1.alloc (.cells #[.int .i64 t.start, .slice A1 t.states.length c1] 31) = w2 at *
  generalize hMb : w1.heap.size = Mb at *
  clear hMb bA
  have hmach : MachAt w2 (.agg #[.int .i64 t.start, .slice A1 t.states.length c1]) t := (show OwnMach w2 (w.heap.size + 2) _ t from ⟨_, rfl, vs, hO2.out⟩).at_
  refine (Ends_any _ t _ hmach HVT.out (fun q c h => by obtain ⟨c', h1, h2⟩ := HSM.out q c h; exact ⟨c', h1, by omega⟩)).mono ?_
  rintro e w3 ⟨sv2, rfl, ⟨⟨bf, d, rfl, hF, hbf, hfl, hfd⟩⟩, r3⟩
  have hdok : DOk d t := dok_of HVT.out HAL.out hfl (fun q hq => dist_small HSM.out (hfd q hq))
  have hsz2 := b2.size
  have P0 : PWS w Mb bf t.start A1 t.states.length c1 d vs w3 (pushPart d t.states 0) := by
    rw [pushPart_zero]
    exact ⟨X52.out.step r3, X22.out.step r3, hF, hO2.out.below r3 (Nat.le_refl _), HAP.out, b2.trans (r3.mono b2.size), hsz1, by have := X52.out.lt; omega⟩
  have HP0 := Lib.hid P0; have HD := Lib.hid hdok
  have k0 := P0.mb.cell; have l0 := P0.mb.lt
  clear hmach hF hfd r3 P0 hdok X22 X52 hO2 b2 HSM HAL HAP
  go_wp2_with fail
  clear k0 l0
  obtain ⟨w4, rfl⟩ : ∃ w4 : World, w4 = w3 := ⟨_, rfl⟩
  go_loopw [33] (fun iv wr => ∃ q : Nat, q ≤ t.states.length ∧ iv = .int .i64 q ∧ PWS w Mb bf t.start A1 t.states.length c1 d vs wr (pushPart d t.states q)) (fun iv _ => t.states.length - (intOf iv).toNat)
  case atStart => exact ⟨0, by omega, rfl, HP0.out⟩
  case round =>
    obtain ⟨q, hq, rfl, hW⟩ := hrel
    have HW := Lib.hid hW
    by_cases hlt : q < t.states.length
    · have hpl := pushPart_len d t.states q
      obtain ⟨g, rfl, hg1, hg2, hg3, hg4, -⟩ := hW.addr (by omega)
      have hget := pushPart_get d t.states q hlt
      have c0 := (OwnSt.at_ ⟨vs, hW.own⟩).2.c0 q (by omega)
      rw [hget] at c0
      simp only [blk_some, ofs_some, Nat.zero_add] at c0
      have hvl : q < vs.length := by have := hW.own.len; omega
      have fz := hW.own.froz (q * 2)
      have ke := hW.eb.cell q
      rw [icellsA_get _ _ (by omega)] at ke
      have le := hW.eb.lt
      have kmb := hW.mb.cell; have lmb := hW.mb.lt
      have hdb := HD.out.b q hlt
      have hfin := HD.out.fin hlt
      have hvf := (HVT.out.st _ (List.getElem_mem hlt)).1
      unfold ValidFinal at hvf
      have hpset := pushPart_set d t.states q hlt
      have hto := fun a (ha : a ∈ t.states[q].arcs) => to_lt HVT.out _ (List.getElem_mem hlt) a ha
      have harc := fun a (ha : a ∈ t.states[q].arcs) => HD.out.arc HVT.out hlt ha
      have hva := fun a (ha : a ∈ t.states[q].arcs) => (HVT.out.st _ (List.getElem_mem hlt)).2 a ha
      have hwt := fun a (ha : a ∈ t.states[q].arcs) => HWT.out _ (List.getElem_mem hlt) a ha
      have hal : t.states[q].arcs.length ≤ 400 := by have h3 := HVT.out.arcs; have := arcs_le_of t.states _ (List.getElem_mem hlt); omega
      have HSET := Lib.hid hpset; have HGET := Lib.hid hget; have HTO := Lib.hid hto; have HARC := Lib.hid harc; have HVA := Lib.hid hva; have HWA := Lib.hid hwt
      have hpm : pushMid d q t.states[q] 0 = ⟨pushFin d q t.states[q].final, t.states[q].arcs⟩ := pushMid_zero d q t.states[q]
      have HPM := Lib.hid hpm
      clear hget hpset hto harc hva hwt hW hpm
      generalize t.states[q] = s at *
      have i0 : (0 : Int) ≤ ↑q := by omega
      have i1 : (↑q : Int) < ↑t.states.length := by omega
      generalize hy : d.getD q 0 = y at *
      have HY := Lib.hid hy
      clear hy
      have hfin2 : s.final ≠ 1000000001 → y ≤ s.final := hfin
      have hdb1 : 0 ≤ y := hdb.1
      have hdb2 : y ≤ 100000000 := hdb.2
      have HF2 := Lib.hid hfin2
      have HVF := Lib.hid hvf
      clear hfin hfin2 hdb hvf
      obtain ⟨wr2, rfl⟩ : ∃ wx : World, wx = wr := ⟨_, rfl⟩
      go_upto_if 44 with fail
      go_cut [] (fun wx => PWS w Mb bf t.start (some ⟨g, 0, none⟩) t.states.length c1 d vs wx ((pushPart d t.states q).set q (pushMid d q s 0)))
      case first =>
        by_cases hf : s.final = 1000000001
        · have HFF := Lib.hid hf
          have hfb : (s.final == 1000000001) = true := by simp [hf]
          clear hf
          go_wp2_with fail
          go_meet
          case rel =>
            have e : (pushPart d t.states q).set q (pushMid d q s 0) = pushPart d t.states q := by
              apply List.ext_getElem
              · simp
              · intro i h1 h2
                by_cases ei : q = i
                · subst ei
                  rw [List.getElem_set_self, HGET.out, HPM.out]
                  unfold pushFin
                  rw [if_pos HFF.out]
                · rw [List.getElem_set_ne ei]
            rw [e]; exact HW.out
        · have h1 := HF2.out hf
          have h2 : 0 ≤ s.final ∧ s.final ≤ 1000000000 := by have := HVF.out; omega
          obtain ⟨h2, h3⟩ := h2
          have hwr : IntKind.i64.wrap (s.final - y) = s.final - y := IntWalk.i64_in _ (by omega)
          have HFF := Lib.hid hf
          have hfb : (s.final == 1000000001) = false := by simpa using hf
          go_upto_region 12 with fail
          go_still_tail 9, (by kernel_rfl)
          change wpList _ _ _ _ _ wr2.drew
          have HWd := Lib.hid (HW.out.keep (Below.refl _ _).drew)
          have c0' : wr2.drew.cell? ⟨g, q * 2, none⟩ = some (.int .i64 s.final) := c0
          have fz' : wr2.drew.frozen? ⟨g, q * 2, none⟩ = false := fz
          have lg' : g < wr2.drew.heap.size := hg2
          clear c0 fz ke le kmb lmb
          generalize wr2.drew = wd at *
          go_wp2_with fail
          go_meet
          case rel =>
            have h := HWd.out.setFinal q (by rw [pushPart_len]; exact hlt) rfl (s.final - y)
            have e : (⟨s.final - y, (pushPart d t.states q)[q].arcs⟩ : StateL) = pushMid d q s 0 := by
              rw [HGET.out, HPM.out]
              unfold pushFin
              rw [if_neg HFF.out, HY.out]
            rw [e] at h
            exact h
      case rest =>
        obtain ⟨wo, rfl⟩ : ∃ wx : World, wx = wc := ⟨_, rfl⟩
        have HW0 := Lib.hid hcut
        have hln : ∀ i, ((pushPart d t.states q).set q (pushMid d q s i)).length = t.states.length := fun i => by rw [List.length_set, pushPart_len]
        have k1 := hcut.own.cell1 q (by rw [hln]; exact hlt) hvl
        simp only [blk_some, ofs_some, Nat.zero_add] at k1
        have ko := hcut.own.arcs q (by rw [hln]; exact hlt) hvl
        simp only [List.getElem_set_self] at ko
        obtain ⟨Ar, cr, hvq, -, -⟩ := own_form ko
        rw [pushMid_len] at hvq
        rw [hvq] at k1
        have HVQ := Lib.hid hvq; have HLN := Lib.hid hln
        have lgo : g < wo.heap.size := World.block_lt_of_cell? _ _ k1
        clear hcut ko hvq hln HW c0 fz ke le kmb lmb hg2
        go_wp2_with fail
        clear k1 lgo
        go_loopw [61] (fun iv wr => ∃ i : Nat, i ≤ s.arcs.length ∧ iv = .int .i64 i ∧ PWS w Mb bf t.start (some ⟨g, 0, none⟩) t.states.length c1 d vs wr ((pushPart d t.states q).set q (pushMid d q s i))) (fun iv _ => s.arcs.length - (intOf iv).toNat)
        case atStart => exact ⟨0, by omega, rfl, HW0.out⟩
        case round =>
          obtain ⟨i, hi, rfl, hI⟩ := hrel
          obtain ⟨wi, rfl⟩ : ∃ wx : World, wx = wr := ⟨_, rfl⟩
          have HI := Lib.hid hI
          by_cases hlt2 : i < s.arcs.length
          · have hqs : q < ((pushPart d t.states q).set q (pushMid d q s i)).length := by rw [HLN.out]; exact hlt
            have k1 := hI.own.cell1 q hqs hvl
            simp only [blk_some, ofs_some, Nat.zero_add] at k1
            obtain ⟨ga, ca, hq9, hvq, hga1, hga2, -, -, -, fza⟩ := hI.row q hqs (by simp only [List.getElem_set_self, pushMid_len]; omega)
            simp only [List.getElem_set_self, pushMid_len] at hvq
            have ko := hI.own.arcs q hqs hvl
            simp only [List.getElem_set_self] at ko
            rw [hvq] at k1 ko
            have hAr := (OwnArcs.at_ ko).2
            have hil : i < (pushMid d q s i).arcs.length := by rw [pushMid_len]; exact hlt2
            have f2 := hAr.c2 i hil; have f3 := hAr.c3 i hil
            rw [pushMid_get d q s i hlt2] at f2 f3
            simp only [blk_some, ofs_some, Nat.zero_add] at f2 f3
            have hmem := List.getElem_mem hlt2
            have hta := HTO.out _ hmem; have hra := HARC.out _ hmem; have hva := HVA.out _ hmem; have hwa := HWA.out _ hmem
            have hps := fun z hz => pushStep (pushPart d t.states q) d q s i hlt2 hqs (by simp only [List.getElem_set_self, pushMid_len]; exact hlt2) z hz
            rw [HY.out] at hps
            have HVQ2 := Lib.hid hvq
            have hswt := fun (W : World) (h : PWS w Mb bf t.start (some ⟨g, 0, none⟩) t.states.length c1 d vs W ((pushPart d t.states q).set q (pushMid d q s i))) x => h.setWt q hqs hvl hvq i (by simp only [List.getElem_set_self, pushMid_len]; exact hlt2) x
            have HSWT := Lib.hid hswt
            generalize s.arcs[i] = a at *
            obtain ⟨tn, htn⟩ : ∃ tn : Nat, a.to = tn := ⟨a.to.toNat, by have := hva.t0; omega⟩
            have htn2 : a.to.toNat = tn := by omega
            rw [htn] at f3
            rw [htn2] at hta hra hps
            have hxb := HD.out.b tn hta
            have ke1 := hI.eb.cell tn
            rw [icellsA_get _ _ (by have := HD.out.len; omega)] at ke1
            have ke2 := hI.eb.cell q
            rw [icellsA_get _ _ (by have := HD.out.len; omega), HY.out] at ke2
            have le := hI.eb.lt
            have kmb := hI.mb.cell; have lmb := hI.mb.lt
            have fz2 := fza (i * 4 + 2)
            generalize d.getD tn 0 = x at *
            obtain ⟨hx0, hx1⟩ := hxb
            have hw0 := hva.w0
            have i2 : (0 : Int) ≤ ↑i := by omega
            have i3 : (↑i : Int) < ↑s.arcs.length := by omega
            have i4 : (0 : Int) ≤ ↑tn := by omega
            have i5 : (↑tn : Int) < ↑t.states.length := by omega
            have hwr1 : IntKind.i64.wrap (x - y) = x - y := IntWalk.i64_in _ (by omega)
            obtain ⟨z, hz⟩ : ∃ z, z = a.wt + (x - y) := ⟨_, rfl⟩
            have hwr2 : IntKind.i64.wrap (a.wt + (x - y)) = z := by rw [hz]; exact IntWalk.i64_in _ (by omega)
            have hz2 : ¬ 1000000000 < z := by omega
            have HPS := Lib.hid (hps z hz)
            have HZ := Lib.hid hz
            clear hps hz hswt hva hta hra hwa htn2 fza ko hAr hvq hI hmem hil
            go_upto_region 17 with fail
            go_still_tail 17, (by kernel_rfl)
            change wpList _ _ _ _ _ wi.drew
            have HId := Lib.hid (HI.out.keep (Below.refl _ _).drew)
            have f2' : wi.drew.cell? ⟨ga, i * 4 + 2, none⟩ = some (.int .i64 a.wt) := f2
            have fz' : wi.drew.frozen? ⟨ga, i * 4 + 2, none⟩ = false := fz2
            have lg' : ga < wi.drew.heap.size := hga2
            clear f2 f3 fz2 hga2 k1 ke1 ke2 le kmb lmb
            generalize wi.drew = wd at *
            go_wp2_with fail
            go_roundw
            case rel =>
              have h := HSWT.out _ HId.out z
              rw [HPS.out] at h
              exact ⟨i + 1, by omega, by go_num, h⟩
            case measure => simp [intOf]; omega
          · obtain rfl : i = s.arcs.length := by omega
            have i3 : ¬ (↑s.arcs.length : Int) < ↑s.arcs.length := by omega
            rw [pushMid_all, HSET.out] at hI
            have HI2 := Lib.hid hI
            clear hI HI
            go_wp2_with fail
            go_roundw
            case rel => exact ⟨q + 1, by omega, by go_num, HI2.out⟩
            case measure => simp [intOf]; omega
    · obtain rfl : q = t.states.length := by omega
      have i1 : ¬ (↑t.states.length : Int) < ↑t.states.length := by omega
      have kmb := hW.mb.cell; have lmb := hW.mb.lt
      have krb := hW.rb.cell; have lrb := hW.rb.lt; have frb := hW.rb.froz
      have hall := pushPart_all d t
      have HALL := Lib.hid hall
      have hMb := hW.hM
      clear hW hall
      by_cases hst : t.start < 0
      · have hst2 : ¬ 0 ≤ t.start := by omega
        have HT : Hid ((if t.start < 0 then 0 else d.getD t.start.toNat 0) = 0) := Lib.hid (if_pos hst)
        go_wp2_with fail
        refine bodyPost_ret (v := .tuple #[.agg #[.int .i64 t.start, .slice A1 t.states.length c1], .int .i64 0, .int .i64 0]) (by simp [results, Try.results30, go_sem, *]) rfl ⟨_, _, rfl, ⟨d, ?_, HD.out, HT.out.symm⟩, ?_⟩
        · rw [← HALL.out]
          exact ⟨_, rfl, vs, ((HW.out.own.setCell (a := ⟨w.heap.size + 1, 0, none⟩) (by simp) _).setCell (a := ⟨w.heap.size + 1, 1, none⟩) (by simp) _).mono (by omega)⟩
        · exact (HW.out.bel.setCell (by simp) _).setCell (by simp) _
      · obtain ⟨sn, hsn⟩ : ∃ sn : Nat, t.start = sn := ⟨t.start.toNat, by omega⟩
        have hsn2 : t.start.toNat = sn := by omega
        have HT : Hid ((if t.start < 0 then 0 else d.getD t.start.toNat 0) = d.getD sn 0) := Lib.hid (by rw [if_neg hst, hsn2])
        have ke := HW.out.eb.cell sn
        rw [icellsA_get _ _ (by have := HD.out.len; omega)] at ke
        have le := HW.out.eb.lt
        generalize d.getD sn 0 = tt at *
        have HSN := Lib.hid hsn
        rw [hsn] at kmb
        have i4 : (0 : Int) ≤ ↑sn := by omega
        have i5 : (↑sn : Int) < ↑t.states.length := by omega
        have hbf2 := HW.out.hf
        have n1 : ¬ Mb = w.heap.size + 1 := by omega
        have n2 : ¬ bf = w.heap.size + 1 := by omega
        have n3 : ¬ w.heap.size + 1 = Mb := by omega
        have n4 : ¬ w.heap.size + 1 = bf := by omega
        have HST := Lib.hid hst
        clear hsn hsn2 hst
        go_upto_region 24 with fail
        go_region
        all_goals
          go_wp2_with fail
          refine bodyPost_ret (v := .tuple #[.agg #[.int .i64 sn, .slice A1 t.states.length c1], .int .i64 tt, .int .i64 0]) (by simp [results, Try.results30, go_sem, *]) rfl ⟨_, _, rfl, ⟨d, ?_, HD.out, HT.out.symm⟩, ?_⟩
        · rw [← HALL.out]
          refine OwnMach.below (B := w.heap.size) (w := (wr.setCell ⟨w.heap.size + 1, 0, none⟩ (.int .i64 sn)).setCell ⟨w.heap.size + 1, 1, none⟩ (.slice A1 t.states.length c1)) ?_ (Below.refl _ _).drew (Nat.le_refl _)
          exact ⟨_, (by show _ = Value.agg #[.int .i64 t.start, _]; rw [HSN.out]), vs, ((HW.out.own.setCell (a := ⟨w.heap.size + 1, 0, none⟩) (by simp) _).setCell (a := ⟨w.heap.size + 1, 1, none⟩) (by simp) _).mono (by omega)⟩
        · exact ((HW.out.bel.setCell (by simp) _).setCell (by simp) _).drew
end Go.Proofs.Ytndajklppipckaa
