/- core.Bits: what a machine is like. -/
/- core.Bits walked. -/
/- What the bits of a machine are when an arc is added (plain). -/
import Derived.Test.YtkmnacchiagipaaDoorCheck
import Derived.Test.YtkmnacchiagipaaDoorCmp
import Derived.Test.YtkmnacchiagipaaDoorKey2
import Derived.Test.YtkmnacchiagipaaDoorMaps
import Derived.Test.YtkmnacchiagipaaDoorSlices
import Derived.Deep.RegionLaw
import Derived.BigGuardPart
import Derived.Test.YtkmnacchiagipaaDoorValid
namespace Go.Proofs.YtkmnacchiagipaaDoor
open Go.RowKit

def labsOf (l : List ArcL) : List (Int × Int) := l.map fun a => (a.inn, a.out)
def accA (a : ArcL) : Bool := a.inn == a.out
def fullA (a : ArcL) : Bool := !(a.inn == 0 && a.out == 0)
def plainA (a : ArcL) : Bool := a.wt == 0
def nodupB (l : List (Int × Int)) : Bool := decide l.Nodup
structure BitsL where
  acc : Bool
  full : Bool
  cert : Bool
  sorted : Bool
  plain : Bool
/-- what the states behind b turn the bits to -/
noncomputable def bitsS (b : BitsL) (s : StateL) : BitsL :=
  ⟨b.acc && s.arcs.all accA, b.full && s.arcs.all fullA, b.cert && nodupB (labsOf s.arcs), b.sorted && sortedL s.arcs, (b.plain && (s.final == 0 || s.final == 1000000001)) && s.arcs.all plainA⟩
noncomputable def bitsT (ss : List StateL) : BitsL := ss.foldl bitsS ⟨true, true, true, true, true⟩
noncomputable def bitsOf (ss : List StateL) : BitsL := { bitsT ss with cert := (bitsT ss).cert && (bitsT ss).full }

theorem bitsT_snoc (ss : List StateL) (k : Nat) (h : k < ss.length) : bitsT (ss.take (k + 1)) = bitsS (bitsT (ss.take k)) ss[k] := by
  unfold bitsT; rw [List.take_succ_eq_append_getElem h, List.foldl_append]; rfl

theorem all_snoc {α : Type} (l : List α) (p : α → Bool) (t : Nat) (h : t < l.length) : (l.take (t + 1)).all p = ((l.take t).all p && p l[t]) := by
  rw [List.take_succ_eq_append_getElem h, List.all_append]; simp only [List.all_cons, List.all_nil, Bool.and_true]
theorem labs_snoc (l : List ArcL) (t : Nat) (h : t < l.length) : labsOf (l.take (t + 1)) = labsOf (l.take t) ++ [(l[t].inn, l[t].out)] := by
  unfold labsOf; rw [List.take_succ_eq_append_getElem h, List.map_append]; rfl

/-- how often each pair was met -/
def cntMap (ls : List (Int × Int)) : List ((Int × Int) × Int) := ls.foldl (fun m x => mput m x ((assoc m x).getD 0 + 1)) []
theorem cntMap_snoc (ls : List (Int × Int)) (x : Int × Int) : cntMap (ls ++ [x]) = mput (cntMap ls) x ((assoc (cntMap ls) x).getD 0 + 1) := by
  unfold cntMap; rw [List.foldl_append]; rfl
theorem cnt_fold (ls : List (Int × Int)) : ∀ (m : List ((Int × Int) × Int)) (x : Int × Int), (assoc (ls.foldl (fun m x => mput m x ((assoc m x).getD 0 + 1)) m) x).getD 0 = (assoc m x).getD 0 + (ls.count x : Int) := by
  induction ls with
  | nil => intro m x; simp
  | cons y ls ih =>
    intro m x
    simp only [List.foldl_cons]
    rw [ih, assoc_mput, List.count_cons]
    by_cases h : x = y
    · subst h; simp; omega
    · have h' : ¬ y = x := fun e => h e.symm
      simp [h, h']
theorem cnt_val (ls : List (Int × Int)) (x : Int × Int) : (assoc (cntMap ls) x).getD 0 = (ls.count x : Int) := by
  unfold cntMap; rw [cnt_fold]; simp [assoc]
theorem nodupB_snoc (ls : List (Int × Int)) (x : Int × Int) : nodupB (ls ++ [x]) = (nodupB ls && ((ls.count x : Int) + 1 == 1)) := by
  unfold nodupB
  have : (ls ++ [x]).Nodup ↔ ls.Nodup ∧ x ∉ ls := by
    rw [List.nodup_append]
    constructor
    · rintro ⟨h1, _, h3⟩; exact ⟨h1, fun hm => h3 x hm x (by simp) rfl⟩
    · rintro ⟨h1, h2⟩; exact ⟨h1, by simp, by intro a ha b hb; simp at hb; subst hb; intro e; subst e; exact h2 ha⟩
  rw [Bool.eq_iff_iff]
  simp only [decide_eq_true_eq, Bool.and_eq_true, beq_iff_eq, this]
  have hc : (x ∉ ls) ↔ ((ls.count x : Int) + 1 = 1) := by
    rw [← List.count_eq_zero]; omega
  rw [hc]

/-- the box of the bits -/
abbrev bitsC (b : BitsL) : Array Value := #[.bool b.acc, .bool b.full, .bool b.cert, .bool b.sorted, .bool b.plain]
/-- what an inner round holds -/
structure InB (w1 wx : World) (aB pB M : Nat) (b : BitsL) (x : ArcL) (l : List ((Int × Int) × Int)) : Prop where
  p : Blk wx w1.heap.size (bitsC b) 66
  ar : Blk wx aB #[.int .i64 x.inn, .int .i64 x.out, .int .i64 x.wt, .int .i64 x.to] 78
  pr : Blk wx pB #[.int .i64 x.inn, .int .i64 x.out] 151
  mp : MapB wx M key2 intV l
  bel : Below w1.heap.size w1 wx
theorem InB.put {w1 wx : World} {aB pB M : Nat} {b b' : BitsL} {a : ArcL} {l : List ((Int × Int) × Int)} (h : InB w1 wx aB pB M b a l) (h1 : w1.heap.size < aB) (h2 : w1.heap.size < pB) (h3 : w1.heap.size < M) (o : Nat) (u : Value) (e : (bitsC b).setIfInBounds o u = bitsC b') :
    InB w1 (wx.setCell ⟨w1.heap.size, o, none⟩ u) aB pB M b' a l :=
  ⟨(h.p.put o u).eq e, h.ar.far (by simp; omega) _, h.pr.far (by simp; omega) _, h.mp.setCell (by simp; omega) _, h.bel.setCell (by simp) _⟩
theorem zeroInt (w : World) : (zeroValue 3).run Tryd.prog w = .ok (.int .i64 0) w := by kernel_rfl
end Go.Proofs.YtkmnacchiagipaaDoor

namespace Go.Proofs.YtkmnacchiagipaaDoor
open Go.RowKit

set_option maxRecDepth 100000 in
set_option maxHeartbeats 8000000 in
theorem Bits_any (v : Value) (m : MachL) (w : World) (hm : MachAt w v m) (hv : Valid m) :
    Calls Tryd.prog 26 #[v] w fun e w' => e = .returned (.tuple #[.agg #[.bool (bitsOf m.states).acc, .bool (bitsOf m.states).full, .bool (bitsOf m.states).cert, .bool (bitsOf m.states).sorted, .bool (bitsOf m.states).plain], .int .i64 0]) ∧ Below w.heap.size w w' := by
  have CH := Lib.hid (fun W hb => Check_ok v m W (hm.below hb) hv)
  obtain ⟨A, c, rfl, hS⟩ := hm
  have hsz := hv.size
  have har := hv.arcs
  have HS := Lib.hid hS
  have HT := Lib.hid (arcsOf_take m.states)
  have HL := Lib.hid (arcsOf_le m.states)
  have HB := Lib.hid (bitsT_snoc m.states)
  have rd := hS.rdy
  have hB0 : bitsOf m.states = { bitsT m.states with cert := (bitsT m.states).cert && (bitsT m.states).full } := rfl
  have HB0 := Lib.hid hB0
  clear hS hv hB0
  generalize m.states = ss at *
  generalize m.start = st at *
  go_enter Tryd.func26, Tryd.ntmps26
  go_wp2_with fail
  refine (CH.out _ (by repeat' (first | exact Below.refl _ _ | assumption | refine Below.drew ?_ | refine Below.alloc ?_ (by first | omega | (simp; done) | (simp; omega)) _ | refine Below.setCell ?_ (by first | omega | (simp; done) | (simp; omega)) _))).mono ?_; rintro e w1 ⟨rfl, bel⟩; obtain ⟨c1, f1⟩ := bcell bel; have z1 := bel.size; simp at z1; (try have y0 : w.heap.size < w1.heap.size := by omega); (try have y1 : w.heap.size + 1 < w1.heap.size := by omega); (try have y2 : w.heap.size + 1 + 1 < w1.heap.size := by omega); (try have y3 : w.heap.size + 1 + 1 + 1 < w1.heap.size := by omega); (try have y4 : w.heap.size + 1 + 1 + 1 + 1 < w1.heap.size := by omega); (try have y5 : w.heap.size + 1 + 1 + 1 + 1 + 1 < w1.heap.size := by omega); (try have y6 : w.heap.size + 1 + 1 + 1 + 1 + 1 + 1 < w1.heap.size := by omega)
  go_wp2_with fail
  have bl : Below w.heap.size w w1 := (by repeat' (first | exact Below.refl _ _ | assumption | refine Below.step ?_ bel | refine Below.drew ?_ | refine Below.alloc ?_ (by first | omega | (simp; done) | (simp; omega)) _ | refine Below.setCell ?_ (by first | omega | (simp; done) | (simp; omega)) _))
  have R0 : Blk w1 (w.heap.size + 1) #[.bool false, .bool false, .bool false, .bool false, .bool false] 66 := by
    refine Blk.step ?_ bel; exact Blk.new' (by simp)
  have P0 : Blk (w1.alloc (.cells #[.bool true, .bool true, .bool true, .bool true, .bool true] 66)) w1.heap.size (bitsC (bitsT [])) 66 := Blk.new _ _ _
  have B0 : Below w1.heap.size w1 (w1.alloc (.cells #[.bool true, .bool true, .bool true, .bool true, .bool true] 66)) := (Below.refl _ _).alloc (Nat.le_refl _) _
  clear c1 f1 y0 z1 bel CH
  generalize w1.alloc (.cells #[.bool true, .bool true, .bool true, .bool true, .bool true] 66) = wl at *
  go_loopw [22] (fun i wr => ∃ k : Nat, k ≤ ss.length ∧ i = .int .i64 k ∧ Blk wr w1.heap.size (bitsC (bitsT (ss.take k))) 66 ∧ Below w1.heap.size w1 wr) (fun i _ => ss.length - (intOf i).toNat)
  case atStart => exact ⟨0, by omega, rfl, P0, B0⟩
  case round =>
    obtain ⟨k, hk, rfl, hP, bel⟩ := hrel
    by_cases hlt : k < ss.length
    · have bw : Below w.heap.size w wr := bl.trans (bel.mono bl.size)
      have hSr := HS.out.below bw (Nat.le_refl _)
      have d0 := hSr.c0 k hlt
      obtain ⟨A', c', d1', hA'⟩ := HS.out.c1 k hlt
      have d1 := cell_keep bw (Nat.le_refl _) d1'
      have hb := HB.out k hlt
      have ht := HT.out k hlt
      have hle := HL.out (k + 1)
      generalize ss[k] = s at *
      have q2 : s.arcs.length ≤ 400 := by omega
      have HA : Hid (ArcsAt w A' s.arcs) := Lib.hid hA'
      have HBK := Lib.hid hb
      have rdA := hA'.rdy
      clear hSr hA' ht hle hb d1'
      have lA : blk A < wr.heap.size := World.block_lt_of_cell? _ _ d0
      have lg := hP.lt
      generalize bitsT (ss.take k) = bk at *
      obtain ⟨ba, bf, bc, bs, bp⟩ := bk
      have HP := Lib.hid hP
      have k1 := hP.cell; have k2 := hP.froz
      clear hP
      obtain ⟨wo, rfl⟩ : ∃ wo : World, wo = wr := ⟨_, rfl⟩
      go_upto_region 8 with fail
      go_cut [] (fun wx => Blk wx w1.heap.size (bitsC ⟨ba, bf, bc, bs, bp && (s.final == 0 || s.final == 1000000001)⟩) 66 ∧ Blk wx wo.heap.size #[.int .i64 s.final, .slice A' s.arcs.length c'] 76 ∧ Below w1.heap.size w1 wx ∧ wo.heap.size < wx.heap.size)
      case first =>
        have lw := bel.size
        cases bp
        all_goals
          go_wp2_with fail
          all_goals
            go_meet
            case rel =>
              refine ⟨?_, ?_, ?_, ?_⟩
              · exact (Blk.alloc (HP.out.put 4 _) _).eq (by simp [*])
              · exact (Blk.new' (by simp)).eq (by simp [*])
              · exact (bel.setCell (by simp) _).alloc (by simp; omega) _
              · simp
      case rest =>
        obtain ⟨hP, hSb, bel2, ls⟩ := hcut
        obtain ⟨wx, rfl⟩ : ∃ wx : World, wx = wc := ⟨_, rfl⟩
        have HP2 := Lib.hid hP; have HS2 := Lib.hid hSb
        have k3 := hP.cell; have k4 := hP.froz; have k5 := hSb.cell
        have lw := bel2.size
        have bw2 : Below w.heap.size w wx := bl.trans (bel2.mono bl.size)
        clear hP hSb k1 k2 d0 d1 HP bel bw
        generalize hbp2 : (bp && (s.final == 0 || s.final == 1000000001)) = bp2 at *
        have HBP := Lib.hid hbp2; clear hbp2
        go_upto_region 9 with fail
        go_cut [] (fun wx2 => Blk wx2 w1.heap.size (bitsC ⟨ba, bf, bc, bs && sortedL s.arcs, bp2⟩) 66 ∧ Blk wx2 wo.heap.size #[.int .i64 s.final, .slice A' s.arcs.length c'] 76 ∧ Below w1.heap.size w1 wx2 ∧ wo.heap.size < wx2.heap.size)
        case first =>
          cases bs
          · go_wp2_with fail
            go_meet
            case rel =>
              refine ⟨?_, ?_, ?_, ?_⟩
              · exact (HP2.out.put 3 _).eq (by simp)
              · exact HS2.out.far (by simp; omega) _
              · exact (bel2.setCell (by simp) _)
              · simp; omega
          · go_wp2_with fail
            refine (IsSorted_any A' c' s.arcs _ (HA.out.below bw2 (Nat.le_refl _)) (by omega)).mono ?_; rintro e w3 ⟨rfl, b3⟩
            have P3 := HP2.out.step b3
            have HP3 := Lib.hid P3; have HS3 := Lib.hid (HS2.out.step b3)
            have k6 := P3.cell; have k7 := P3.froz
            have z3 := b3.size
            clear P3 k3 k4 k5
            go_wp2_with fail
            go_meet
            case rel =>
              refine ⟨?_, ?_, ?_, ?_⟩
              · exact (HP3.out.put 3 _).eq (by simp)
              · exact HS3.out.far (by simp; omega) _
              · exact ((bel2.trans (b3.mono bel2.size)).setCell (by simp) _)
              · simp; omega
        case rest =>
          obtain ⟨hP, hSb, bel4, ls4⟩ := hcut
          obtain ⟨w4, rfl⟩ : ∃ wx : World, wx = wc := ⟨_, rfl⟩
          have HP4 := Lib.hid hP; have HS4 := Lib.hid hSb
          have k6 := hSb.cell
          have lw4 := bel4.size
          clear hP hSb k3 k4 k5 HP2 HS2 bel2 bw2
          generalize hbs2 : (bs && sortedL s.arcs) = bs2 at *
          have HBS := Lib.hid hbs2; clear hbs2
          have hmm := run_makeMap (P := Tryd.prog) 150 w4
          go_wp2_with fail
          clear hmm k6
          have HM0 : MapB (w4.alloc (.map #[] 0)) w4.heap.size key2 intV (cntMap (labsOf (s.arcs.take 0))) := MapB.made w4 _ rfl _ _
          have HPM := Lib.hid (HP4.out.alloc (.map #[] 0))
          have bel5 : Below w1.heap.size w1 (w4.alloc (.map #[] 0)) := bel4.alloc lw4 _
          have HN := Lib.hid (fun t h => nodupB_snoc (labsOf (s.arcs.take t)) h)
          generalize w4.alloc (.map #[] 0) = w5 at *
          have hM1 : w1.heap.size < w4.heap.size := by omega
          generalize w4.heap.size = M at *
          clear HP4 HS4 bel4 lw4 ls4
          go_loopw [51] (fun i wr => ∃ t : Nat, t ≤ s.arcs.length ∧ i = .int .i64 t ∧ Blk wr w1.heap.size (bitsC ⟨ba && (s.arcs.take t).all accA, bf && (s.arcs.take t).all fullA, bc && nodupB (labsOf (s.arcs.take t)), bs2, bp2 && (s.arcs.take t).all plainA⟩) 66 ∧ MapB wr M key2 intV (cntMap (labsOf (s.arcs.take t))) ∧ Below w1.heap.size w1 wr) (fun i _ => s.arcs.length - (intOf i).toNat)
          case atStart => exact ⟨0, by omega, rfl, by simpa [nodupB, labsOf] using HPM.out, HM0, bel5⟩
          case round =>
            obtain ⟨t, ht, rfl, hP, hM, bel⟩ := hrel
            by_cases hlt2 : t < s.arcs.length
            · have bwi : Below w.heap.size w wr := bl.trans (bel.mono bl.size)
              have hAr := HA.out.below bwi (Nat.le_refl _)
              have d0 := hAr.c0 t hlt2; have d1 := hAr.c1 t hlt2; have d2 := hAr.c2 t hlt2; have d3 := hAr.c3 t hlt2
              have e1 : (s.arcs.take (t + 1)).all accA = ((s.arcs.take t).all accA && accA s.arcs[t]) := all_snoc _ _ _ hlt2
              have e2 : (s.arcs.take (t + 1)).all fullA = ((s.arcs.take t).all fullA && fullA s.arcs[t]) := all_snoc _ _ _ hlt2
              have e3 : (s.arcs.take (t + 1)).all plainA = ((s.arcs.take t).all plainA && plainA s.arcs[t]) := all_snoc _ _ _ hlt2
              have e4 : labsOf (s.arcs.take (t + 1)) = labsOf (s.arcs.take t) ++ [(s.arcs[t].inn, s.arcs[t].out)] := labs_snoc _ _ hlt2
              have e5 := cntMap_snoc (labsOf (s.arcs.take t)) (s.arcs[t].inn, s.arcs[t].out)
              have e6 := cnt_val (labsOf (s.arcs.take t)) (s.arcs[t].inn, s.arcs[t].out)
              have e7 := nodupB_snoc (labsOf (s.arcs.take t)) (s.arcs[t].inn, s.arcs[t].out)
              have e8 : (labsOf (s.arcs.take t)).count (s.arcs[t].inn, s.arcs[t].out) ≤ 400 := Nat.le_trans List.count_le_length (by simp [labsOf]; omega)
              rw [← e4] at e5 e7
              rw [e6] at e5
              generalize hcn : ((labsOf (s.arcs.take t)).count (s.arcs[t].inn, s.arcs[t].out) : Int) = cn at *
              have cn0 : 0 ≤ cn := by omega
              have cn1 : cn ≤ 400 := by omega
              generalize s.arcs[t] = a at *
              clear hAr hcn e8
              generalize (s.arcs.take t).all accA = ya at *
              generalize (s.arcs.take t).all fullA = yf at *
              generalize (s.arcs.take t).all plainA = yp at *
              generalize cntMap (labsOf (s.arcs.take t)) = mp at *
              generalize nodupB (labsOf (s.arcs.take t)) = yc at *
              have E1 := Lib.hid e1; have E2 := Lib.hid e2; have E3 := Lib.hid e3; have E5 := Lib.hid e5; have E6 := Lib.hid e6; have E7 := Lib.hid e7
              have E6b : Hid ((assoc (mput mp (a.inn, a.out) cn) (a.inn, a.out)).getD 0 = cn) := Lib.hid (by rw [assoc_mput]; simp)
              have E6c : Hid ((assoc (mput mp (a.inn, a.out) (cn + 1)) (a.inn, a.out)).getD 0 = cn + 1) := Lib.hid (by rw [assoc_mput]; simp)
              have lA' : blk A' < wr.heap.size := World.block_lt_of_cell? _ _ d0
              have lg2 := hP.lt
              have lM := hM.lt
              have HP := Lib.hid hP; have HM := Lib.hid hM
              clear hP hM e1 e2 e3 e4 e5 e6 e7
              obtain ⟨wi, rfl⟩ : ∃ wi : World, wi = wr := ⟨_, rfl⟩
              go_upto_region 15 with fail
              have I0 : InB w1 ((wi.alloc (.cells #[.int .i64 a.inn, .int .i64 a.out, .int .i64 a.wt, .int .i64 a.to] 78)).alloc (.cells #[.int .i64 a.inn, .int .i64 a.out] 151)) wi.heap.size (wi.heap.size + 1) M ⟨ba && ya, bf && yf, bc && yc, bs2, bp2 && yp⟩ a mp :=
                ⟨(HP.out.alloc _).alloc _, (Blk.new _ _ _).alloc _, Blk.new' (by simp), (HM.out.alloc _).alloc _, (bel.alloc bel.size _).alloc (by have := bel.size; simp; omega) _⟩
              have hsz0 : (((wi.alloc (.cells #[.int .i64 a.inn, .int .i64 a.out, .int .i64 a.wt, .int .i64 a.to] 78)).alloc (.cells #[.int .i64 a.inn, .int .i64 a.out] 151))).heap.size = wi.heap.size + 2 := by simp
              generalize ((wi.alloc (.cells #[.int .i64 a.inn, .int .i64 a.out, .int .i64 a.wt, .int .i64 a.to] 78)).alloc (.cells #[.int .i64 a.inn, .int .i64 a.out] 151)) = w6 at *
              have j1 : w1.heap.size < wi.heap.size := lg2
              have j2 : w1.heap.size < wi.heap.size + 1 := by omega
              have HI := Lib.hid I0
              have k1 := I0.pr.cell
              clear I0 d0 d1 d2 d3
              go_cut [] (fun wx => InB w1 wx wi.heap.size (wi.heap.size + 1) M ⟨ba && ya, bf && yf, bc && yc, bs2, bp2 && yp⟩ a (mput mp (a.inn, a.out) (cn + 1)))
              case first =>
                obtain ⟨ix, hme, hix⟩ := run_mapEntry_x HI.out.mp.drew keyOk2 Tryd.underlying150 (a.inn, a.out) 0 (zeroInt _)
                have HME := HI.out.mp.drew.put (a.inn, a.out) ((assoc mp (a.inn, a.out)).getD 0)
                have hgr7 : w6.drew.grownBy _ (some M) := setBlock_grown (b := M) (mapObj key2 intV (mput mp (a.inn, a.out) ((assoc mp (a.inn, a.out)).getD 0)))
                rw [E6.out] at hme hix HME hgr7
                generalize Go.ChangeMaps.setBlock w6.drew M (mapObj key2 intV (mput mp (a.inn, a.out) cn)) = w7 at *
                have hl1 : (Instr.lookup 150 (.map (some M)) (.agg #[.int .i64 a.inn, .int .i64 a.out]) false).run Tryd.prog w6.drew = .ok (.int .i64 cn) w6.drew := run_lookup_int keyOk2 Tryd.underlying150 (a.inn, a.out) cn (zeroInt _) HI.out.mp.drew E6.out
                have hl2 : (Instr.lookup 150 (.map (some M)) (.agg #[.int .i64 a.inn, .int .i64 a.out]) false).run Tryd.prog w7 = .ok (.int .i64 cn) w7 := run_lookup_int keyOk2 Tryd.underlying150 (a.inn, a.out) cn (zeroInt _) HME E6b.out
                have he1 : (Instr.mapEntry 150 (.map (some M)) (.agg #[.int .i64 a.inn, .int .i64 a.out])).run Tryd.prog w6.drew = .ok (.tuple #[.int .i64 cn, .int .i64 (ix : Nat)]) w7 := hme
                have hs1 := run_entryStore_x (P := Tryd.prog) HME 150 hix (cn + 1)
                have HMS := HME.put (a.inn, a.out) (cn + 1)
                have hgr8 : w7.grownBy _ (some M) := setBlock_grown (b := M) (mapObj key2 intV (mput (mput mp (a.inn, a.out) cn) (a.inn, a.out) (cn + 1)))
                generalize Go.ChangeMaps.setBlock w7 M (mapObj key2 intV (mput (mput mp (a.inn, a.out) cn) (a.inn, a.out) (cn + 1))) = w8 at *
                have hs2 : (Instr.entryStore 150 (.map (some M)) (.int .i64 (ix : Nat)) (.int .i64 (cn + 1))).run Tryd.prog w7 = .ok () w8 := hs1
                rw [mput_mput] at HMS
                have HR : Hid (InB w1 w8 wi.heap.size (wi.heap.size + 1) M ⟨ba && ya, bf && yf, bc && yc, bs2, bp2 && yp⟩ a (mput mp (a.inn, a.out) (cn + 1))) := by
                  have n1 : M < wi.heap.size := lM
                  have b7 : Below w1.heap.size w1 w7 := HI.out.bel.drew.grown hgr7 (by have := HI.out.bel.size; simpa using this) (fun j hj => by simp at hj; omega)
                  exact Lib.hid ⟨(HI.out.p.drew.grown hgr7 (by simp; omega)).grown hgr8 (by simp; omega), (HI.out.ar.drew.grown hgr7 (by simp; omega)).grown hgr8 (by simp; omega), (HI.out.pr.drew.grown hgr7 (by simp; omega)).grown hgr8 (by simp; omega), HMS, b7.grown hgr8 b7.size (fun j hj => by simp at hj; omega)⟩
                clear hme hs1 HMS hix HME hgr7 hgr8
                go_region
                all_goals
                  go_wp2_with fail
                  go_meet
                  case rel => exact HR.out
              case rest =>
                clear HI k1 hsz0
                generalize hx1 : (ba && ya) = xa at *
                generalize hx2 : (bf && yf) = xf at *
                generalize hx3 : (bc && yc) = xc at *
                generalize hx4 : (bp2 && yp) = xp at *
                have EQ : Hid (bitsC ⟨xa && accA a, xf && fullA a, xc && (cn + 1 == 1), bs2, xp && plainA a⟩ = bitsC ⟨ba && (s.arcs.take (t + 1)).all accA, bf && (s.arcs.take (t + 1)).all fullA, bc && nodupB (labsOf (s.arcs.take (t + 1))), bs2, bp2 && (s.arcs.take (t + 1)).all plainA⟩) :=
                  Lib.hid (by rw [E1.out, E2.out, E3.out, E7.out, ← hx1, ← hx2, ← hx3, ← hx4]; simp only [Bool.and_assoc])
                clear hx1 hx2 hx3 hx4
                obtain ⟨wz, rfl⟩ : ∃ wx : World, wx = wc := ⟨_, rfl⟩
                have HI := Lib.hid hcut
                clear hcut
                go_upto_region 16 with fail
                go_cut [] (fun wx => InB w1 wx wi.heap.size (wi.heap.size + 1) M ⟨xa && accA a, xf, xc, bs2, xp⟩ a (mput mp (a.inn, a.out) (cn + 1)))
                case first =>
                  have k1 := HI.out.p.cell; have k2 := HI.out.p.froz; have k3 := HI.out.ar.cell; have k4 := HI.out.pr.cell
                  cases xa
                  all_goals
                    go_wp2_with fail
                    go_meet
                    case rel => exact HI.out.put j1 j2 hM1 0 _ (by simp [accA])
                case rest =>
                  obtain ⟨wz, rfl⟩ : ∃ wx : World, wx = wc := ⟨_, rfl⟩
                  have HI := Lib.hid hcut
                  clear hcut
                  go_upto_region 17 with fail
                  go_cut [] (fun wx => InB w1 wx wi.heap.size (wi.heap.size + 1) M ⟨xa && accA a, xf && fullA a, xc, bs2, xp⟩ a (mput mp (a.inn, a.out) (cn + 1)))
                  case first =>
                    have k1 := HI.out.p.cell; have k2 := HI.out.p.froz; have k3 := HI.out.ar.cell; have k4 := HI.out.pr.cell
                    have heq := eq2 a.inn a.out 0 0
                    cases xf
                    all_goals
                      go_wp2_with fail
                      go_meet
                      case rel => exact HI.out.put j1 j2 hM1 1 _ (by simp [fullA])
                  case rest =>
                    obtain ⟨wz, rfl⟩ : ∃ wx : World, wx = wc := ⟨_, rfl⟩
                    have HI := Lib.hid hcut
                    clear hcut
                    go_upto_region 18 with fail
                    go_cut [] (fun wx => InB w1 wx wi.heap.size (wi.heap.size + 1) M ⟨xa && accA a, xf && fullA a, xc, bs2, xp && plainA a⟩ a (mput mp (a.inn, a.out) (cn + 1)))
                    case first =>
                      have k1 := HI.out.p.cell; have k2 := HI.out.p.froz; have k3 := HI.out.ar.cell; have k4 := HI.out.pr.cell
                      cases xp
                      all_goals
                        go_wp2_with fail
                        go_meet
                        case rel => exact HI.out.put j1 j2 hM1 4 _ (by simp [plainA])
                    case rest =>
                      obtain ⟨wz, rfl⟩ : ∃ wx : World, wx = wc := ⟨_, rfl⟩
                      have HI := Lib.hid hcut
                      have k1 := HI.out.p.cell; have k2 := HI.out.p.froz; have k3 := HI.out.ar.cell; have k4 := HI.out.pr.cell
                      have hl : (Instr.lookup 150 (.map (some M)) (.agg #[.int .i64 a.inn, .int .i64 a.out]) false).run Tryd.prog wz = .ok (.int .i64 (cn + 1)) wz := run_lookup_int keyOk2 Tryd.underlying150 (a.inn, a.out) (cn + 1) (zeroInt _) HI.out.mp E6c.out
                      clear hcut
                      cases xc
                      all_goals
                        go_wp2_with fail
                        go_roundw
                        case rel =>
                          refine ⟨t + 1, by omega, by go_num, ?_, ?_, ?_⟩
                          · exact (HI.out.p.put 2 _).eq (Eq.trans (by simp) EQ.out)
                          · rw [E5.out]; exact HI.out.mp.setCell (by simp; omega) _
                          · exact HI.out.bel.setCell (by simp) _
                        case measure => simp [intOf]; omega
            · have hte : s.arcs.take t = s.arcs := List.take_of_length_le (by omega)
              rw [hte] at hP hM
              have HP := Lib.hid hP
              have EQ2 : Hid (bitsC ⟨ba && s.arcs.all accA, bf && s.arcs.all fullA, bc && nodupB (labsOf s.arcs), bs2, bp2 && s.arcs.all plainA⟩ = bitsC (bitsT (ss.take (k + 1)))) :=
                Lib.hid (by rw [HBK.out, ← HBP.out, ← HBS.out]; simp only [bitsS])
              clear hP hM hte
              go_wp2_with fail
              go_roundw
              case rel => exact ⟨k + 1, by omega, by go_num, HP.out.eq EQ2.out, bel⟩
              case measure => simp [intOf]; omega
    · have hke : ss.take k = ss := List.take_of_length_le (by omega)
      rw [hke] at hP
      have bw : Below w.heap.size w wr := bl.trans (bel.mono bl.size)
      have hR := R0.below bel y1
      have hFin : bitsOf ss = { bitsT ss with cert := (bitsT ss).cert && (bitsT ss).full } := HB0.out
      have HFin := Lib.hid hFin
      generalize bitsT ss = bk at *
      obtain ⟨ba, bf, bc, bs, bp⟩ := bk
      have k1 := hP.cell; have k2 := hP.froz; have k3 := hR.cell; have k4 := hR.froz
      have HP := Lib.hid hP
      have lg := hP.lt
      have sz := bl.size
      have HR := Lib.hid hR
      have bz : Hid (Below w1.heap.size w1 wr) := Lib.hid bel
      clear hP hR hke hFin bel
      cases bc
      all_goals
        go_wp2_with fail
        refine bodyPost_ret (v := .tuple #[.agg #[.bool (bitsOf ss).acc, .bool (bitsOf ss).full, .bool (bitsOf ss).cert, .bool (bitsOf ss).sorted, .bool (bitsOf ss).plain], .int .i64 0]) ?_ rfl ⟨rfl, ?_⟩
        · rw [HFin.out]
          simp [results, Tryd.results26, go_sem, *]
        · iterate 6 (refine Below.setCell ?_ (by first | (simp; done) | (simp; omega)) _)
          exact bw
end Go.Proofs.YtkmnacchiagipaaDoor

namespace Go.Proofs.YtkmnacchiagipaaDoor
open Go.RowKit

theorem bitsT_fold (ss : List StateL) : ∀ b : BitsL, ss.foldl bitsS b = ⟨b.acc && ss.all (fun s => s.arcs.all accA), b.full && ss.all (fun s => s.arcs.all fullA), b.cert && ss.all (fun s => nodupB (labsOf s.arcs)), b.sorted && ss.all (fun s => sortedL s.arcs), b.plain && ss.all (fun s => (s.final == 0 || s.final == 1000000001) && s.arcs.all plainA)⟩ := by
  induction ss with
  | nil => intro b; simp
  | cons s ss ih => intro b; simp only [List.foldl_cons, ih, bitsS, List.all_cons, Bool.and_assoc]
theorem bitsT_eq (ss : List StateL) : bitsT ss = ⟨ss.all (fun s => s.arcs.all accA), ss.all (fun s => s.arcs.all fullA), ss.all (fun s => nodupB (labsOf s.arcs)), ss.all (fun s => sortedL s.arcs), ss.all (fun s => (s.final == 0 || s.final == 1000000001) && s.arcs.all plainA)⟩ := by
  unfold bitsT; rw [bitsT_fold]; simp only [Bool.true_and]

theorem all_set {α : Type} (l : List α) (p : α → Bool) (q : Nat) (hq : q < l.length) (x : α) (h : p x = p l[q]) : (l.set q x).all p = l.all p := by
  rw [Bool.eq_iff_iff, List.all_eq_true, List.all_eq_true]
  constructor
  · intro H y hy
    obtain ⟨i, hi, rfl⟩ := List.getElem_of_mem hy
    by_cases e : q = i
    · subst e; rw [← h]; exact H x (List.mem_set hq x)
    · have := H ((l.set q x)[i]'(by simpa using hi)) (List.getElem_mem _)
      rwa [List.getElem_set_ne e] at this
  · intro H y hy
    rcases List.mem_or_eq_of_mem_set hy with hm | rfl
    · exact H y hm
    · rw [h]; exact H _ (List.getElem_mem _)
theorem all_set_false {α : Type} (l : List α) (p : α → Bool) (q : Nat) (hq : q < l.length) (x : α) (h : p x = false) : (l.set q x).all p = false := by
  rw [Bool.eq_false_iff]; intro H
  rw [List.all_eq_true] at H
  have := H x (List.mem_set hq x)
  rw [h] at this; cases this

theorem set_acc (ss : List StateL) (q : Nat) (hq : q < ss.length) (l : List ArcL) (h : l.all accA = ss[q].arcs.all accA) : (bitsOf (ss.set q ⟨ss[q].final, l⟩)).acc = (bitsOf ss).acc := by
  simp only [bitsOf, bitsT_eq]; exact all_set _ (fun s : StateL => s.arcs.all accA) q hq _ h
theorem set_full (ss : List StateL) (q : Nat) (hq : q < ss.length) (l : List ArcL) (h : l.all fullA = ss[q].arcs.all fullA) : (bitsOf (ss.set q ⟨ss[q].final, l⟩)).full = (bitsOf ss).full := by
  simp only [bitsOf, bitsT_eq]; exact all_set _ (fun s : StateL => s.arcs.all fullA) q hq _ h
theorem set_plain (ss : List StateL) (q : Nat) (hq : q < ss.length) (l : List ArcL) (h : l.all plainA = ss[q].arcs.all plainA) : (bitsOf (ss.set q ⟨ss[q].final, l⟩)).plain = (bitsOf ss).plain := by
  simp only [bitsOf, bitsT_eq]; exact all_set _ (fun s : StateL => (s.final == 0 || s.final == 1000000001) && s.arcs.all plainA) q hq _ (by simp only [h])
theorem set_empty (ss : List StateL) (q : Nat) (hq : q < ss.length) (l : List ArcL) (h : l.all fullA = false) : (bitsOf (ss.set q ⟨ss[q].final, l⟩)).full = false ∧ (bitsOf (ss.set q ⟨ss[q].final, l⟩)).cert = false := by
  have e := all_set_false ss (fun s : StateL => s.arcs.all fullA) q hq ⟨ss[q].final, l⟩ h
  simp only [bitsOf, bitsT_eq, e, Bool.and_false, and_self]
theorem set_twin (ss : List StateL) (q : Nat) (hq : q < ss.length) (l : List ArcL) (h : ¬ (labsOf l).Nodup) : (bitsOf (ss.set q ⟨ss[q].final, l⟩)).cert = false := by
  have e := all_set_false ss (fun s : StateL => nodupB (labsOf s.arcs)) q hq ⟨ss[q].final, l⟩ (by simp [nodupB, h])
  simp only [bitsOf, bitsT_eq, e, Bool.false_and]
theorem all_snoc_mem {α : Type} (l : List α) (p : α → Bool) (x : α) (h : x ∈ l) : (l ++ [x]).all p = l.all p := by
  rw [List.all_append]
  cases e : l.all p
  · simp
  · simp; exact List.all_eq_true.1 e x h
theorem twin_nodup (l : List ArcL) (x : ArcL) (h : x ∈ l) : ¬ (labsOf (l ++ [x])).Nodup := by
  intro H
  simp only [labsOf, List.map_append, List.map_cons, List.map_nil, List.nodup_append] at H
  exact H.2.2 _ (List.mem_map.2 ⟨x, h, rfl⟩) _ (by simp) rfl

theorem arcsOf_set (ss : List StateL) (q : Nat) (hq : q < ss.length) (x : ArcL) : arcsOf (ss.set q ⟨ss[q].final, ss[q].arcs ++ [x]⟩) = arcsOf ss + 1 := by
  induction ss generalizing q with
  | nil => simp at hq
  | cons s ss ih =>
    cases q with
    | zero => simp [arcsOf]; omega
    | succ q =>
      have := ih q (by simpa using hq)
      simp only [arcsOf, List.set_cons_succ, List.map_cons, List.sum_cons, List.getElem_cons_succ] at this ⊢
      omega
theorem valid_set {m : MachL} (h : Valid m) (ha : arcsOf m.states ≤ 24) (q : Nat) (hq : q < m.states.length) (x : ArcL) (hx : ValidArc m.states.length x) : Valid ⟨m.start, m.states.set q ⟨m.states[q].final, m.states[q].arcs ++ [x]⟩⟩ := by
  refine ⟨by simpa using h.size, by simp only [arcsOf_set _ q hq]; omega, h.s0, by simpa using h.s1, fun s hs => ?_⟩
  simp only [List.length_set]
  rcases List.mem_or_eq_of_mem_set hs with hm | rfl
  · exact h.st s hm
  · refine ⟨(h.st _ (List.getElem_mem hq)).1, fun a ha => ?_⟩
    rcases List.mem_append.1 ha with ha | ha
    · exact (h.st _ (List.getElem_mem hq)).2 a ha
    · simp at ha; subst ha; exact hx
theorem made_arcs (r : RawL) (k : Int) (full : Bool) (k1 : 1 ≤ k) : arcsOf (mkMach r k full).states ≤ 4 * k.toNat := by
  have := sum_le4 _ (mk_arcs_small r k full)
  have hl := mkMach_len r k full k1
  have : (mkMach r k full).states.length ≤ k.toNat := by
    have : mkN r k ≤ k := by unfold mkN; omega
    omega
  omega
theorem made_full (r : RawL) (k : Int) : (bitsOf (mkMach r k true).states).full = true := by
  simp only [bitsOf, bitsT_eq]
  rw [List.all_eq_true]; intro s hs
  unfold mkMach mkStates at hs
  obtain ⟨i, -, rfl⟩ := List.mem_map.1 hs
  rw [List.all_eq_true]; intro a ha
  cases h : r.nodes[i]? with
  | none => rw [h] at ha; simp [mkState] at ha
  | some x =>
    rw [h] at ha
    simp only [mkState, mkArcs] at ha
    obtain ⟨e, -, rfl⟩ := List.mem_map.1 ha
    simp only [fullA, mkArc]
    by_cases h0 : pick e.inn 3 = 0 ∧ pick e.out 3 = 0
    · simp [h0]
    · simp only [true_and, if_neg h0]
      simp; omega
end Go.Proofs.YtkmnacchiagipaaDoor
