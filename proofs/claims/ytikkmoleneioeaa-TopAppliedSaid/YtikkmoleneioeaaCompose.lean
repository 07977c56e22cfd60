/- compose.Compose. -/
import Derived.Test.YtikkmoleneioeaaHop
import Derived.Test.YtikkmoleneioeaaBuild
import Derived.Deep.RegionHeld3
namespace Go.Proofs.Ytikkmoleneioeaa
open Go.RowKit

/-- why it is too large -/
def FullWhy (a b : MachL) : Prop := (∃ T : List TriL, T.Nodup ∧ (∀ t ∈ T, t.a < a.states.length ∧ t.b < b.states.length ∧ t.f ≤ 2) ∧ 60 < T.length) ∨ (∃ (T : List TriL) (S : List StateL) (t : TriL), CoInv a b T S ∧ T[S.length]? = some t ∧ 400 < arcsOf S + (hopsX a b t).length)
/-- what Compose answers -/
def CompR (a b : MachL) (w w' : World) (e : Ending) : Prop :=
  (e = .returned (.tuple #[.agg #[.int .i64 0, .slice none 0 0], .int .i64 5]) ∧ FullWhy a b) ∨ ∃ mv c T, e = .returned (.tuple #[mv, .int .i64 0]) ∧ OwnMach w' w.heap.size mv c ∧ ComposeOk a b c T ∧ c.states.length ≤ 60 ∧ arcsOf c.states ≤ 400

theorem arcsQ_len {m : MachL} (hv : Valid m) (q : Nat) : (arcsQ m q).length ≤ 400 := by
  unfold arcsQ
  cases hs : m.states[q]? with
  | none => simp
  | some s =>
    have h1 := arcs_le_of m.states s (List.mem_of_getElem? hs)
    have h2 := hv.arcs
    simp only [Option.map_some, Option.getD_some]; omega
theorem hops_len {a b : MachL} (hva : Valid a) (hvb : Valid b) (t : TriL) : (hopsX a b t).length ≤ 200000 := by
  have h1 := left_len t (arcsQ b t.b) (arcsQ a t.a) (arcsQ a t.a).length
  rw [List.take_length] at h1
  have h2 := arcsQ_len hva t.a; have h3 := arcsQ_len hvb t.b
  have h4 := rightTo_len t (arcsQ b t.b) (arcsQ b t.b).length
  have h5 : hopsR t (arcsQ b t.b) = rightTo t (arcsQ b t.b) (arcsQ b t.b).length := by unfold hopsR rightTo; rw [List.take_length]
  have h6 : (arcsQ a t.a).length * ((arcsQ b t.b).length + 1) ≤ 400 * 401 := Nat.mul_le_mul h2 (by omega)
  unfold hopsX
  rw [List.length_append, h5]
  omega

set_option maxRecDepth 100000 in
set_option maxHeartbeats 16000000 in
theorem Compose_any (va vb : Value) (a b : MachL) (W1 W2 : Int) (w : World) (ha : MachAt w va a) (hb : MachAt w vb b) (hva : Valid a) (hvb : Valid b) (ha0 : 0 ≤ a.start) (hb0 : 0 ≤ b.start) (hW : WtOk a b W1 W2) :
    Calls Try.prog 19 #[va, vb] w fun e w' => CompR a b w w' e ∧ Below w.heap.size w w' := by
  have CB := Lib.hid (fun W' (h : Below w.heap.size w W') => cboth_any va vb a b W' (ha.below h) (hb.below h) hva hvb)
  have I0 := Lib.hid (CoInv.init hva hvb ha0 hb0)
  obtain ⟨AA, ca, rfl, hSA⟩ := ha
  obtain ⟨AB, cb, rfl, hSB⟩ := hb
  have EX := Lib.hid (fun (t : TriL) (W : World) (h : Below w.heap.size w W) ht => expand_any a b AA AB ca cb t W1 W2 W (hSA.below h (Nat.le_refl _)) (hSB.below h (Nat.le_refl _)) hva hvb ht hW)
  have HHL := Lib.hid (hops_len hva hvb)
  have HRG := Lib.hid (fun (t : TriL) ht (h : HopL) hm => hop_rng hva hvb (t := t) ht (h := h) hm)
  have HNX := Lib.hid (fun (T0 T : List TriL) (S : List StateL) (L : List ArcL) (t : TriL) (h : CoInv a b T0 S) ht hI => h.next (T := T) (L := L) (t := t) hva hvb ht hI)
  obtain ⟨sa, hsa⟩ : ∃ sa : Nat, a.start = sa := ⟨a.start.toNat, by omega⟩
  obtain ⟨sb, hsb⟩ : ∃ sb : Nat, b.start = sb := ⟨b.start.toNat, by omega⟩
  have hsa2 : a.start.toNat = sa := by omega
  have hsb2 : b.start.toNat = sb := by omega
  rw [hsa2, hsb2] at I0
  rw [hsa, hsb] at CB EX ⊢
  have n1 : ¬ (↑sa : Int) < 0 := by omega
  have n2 : ¬ (↑sb : Int) < 0 := by omega
  clear hSA hSB hva hvb ha0 hb0 hW hsa hsb hsa2 hsb2
  go_enter Try.func19, Try.ntmps19
  go_wp2_with fail
  refine (CB.out _ (by repeat' (first | exact Below.refl _ _ | assumption | refine Below.drew ?_ | refine Below.alloc ?_ (by first | omega | (simp; done) | (simp; omega)) _ | refine Below.setCell ?_ (by first | omega | (simp; done) | (simp; omega)) _))).mono ?_
  rintro e w1 ⟨rfl, r1⟩
  have MA : Hid (Blk w1 w.heap.size #[.int .i64 sa, .slice AA a.states.length ca] 28) := Lib.hid (Blk.step (((Blk.new _ _ _).alloc _).alloc _) r1)
  have MBx : Hid (Blk w1 (w.heap.size + 1) #[.int .i64 sb, .slice AB b.states.length cb] 28) := Lib.hid (Blk.step ((Blk.new' (by simp)).alloc _) r1)
  have MR : Hid (Blk w1 (w.heap.size + 2) #[.int .i64 0, .slice none 0 0] 28) := Lib.hid (Blk.step (Blk.new' (by simp)) r1)
  have b1 : Below w.heap.size w w1 := ((by repeat' (first | exact Below.refl _ _ | assumption | refine Below.drew ?_ | refine Below.alloc ?_ (by first | omega | (simp; done) | (simp; omega)) _ | refine Below.setCell ?_ (by first | omega | (simp; done) | (simp; omega)) _)) : Below w.heap.size w _).trans (r1.mono (by simp; omega))
  have hw1 : w.heap.size + 3 ≤ w1.heap.size := by have := r1.size; simp at this; omega
  have k1 := MA.out.cell; have l1 := MA.out.lt; have k2 := MBx.out.cell; have l2 := MBx.out.lt
  clear r1 CB
  go_upto_region 7 with fail
  have TB : Hid (Blk (w1.alloc (.cells #[.int .i64 sa, .int .i64 sb, .int .i64 0] 83)) w1.heap.size #[.int .i64 sa, .int .i64 sb, .int .i64 0] 83) := Lib.hid (Blk.new _ _ _)
  have b2 := b1.alloc b1.size (.cells #[.int .i64 sa, .int .i64 sb, .int .i64 0] 83)
  have MA2 := Lib.hid (MA.out.alloc (.cells #[.int .i64 sa, .int .i64 sb, .int .i64 0] 83)); have MB2 := Lib.hid (MBx.out.alloc (.cells #[.int .i64 sa, .int .i64 sb, .int .i64 0] 83)); have MR2 := Lib.hid (MR.out.alloc (.cells #[.int .i64 sa, .int .i64 sb, .int .i64 0] 83))
  have hw2 : (w1.alloc (.cells #[.int .i64 sa, .int .i64 sb, .int .i64 0] 83)).heap.size = w1.heap.size + 1 := by simp
  have HW2 := Lib.hid hw2
  clear MA MBx MR b1 k1 l1 k2 l2 hw2
  generalize w1.alloc (.cells #[.int .i64 sa, .int .i64 sb, .int .i64 0] 83) = w2 at *
  generalize w1.heap.size = tb at *
  have hmm := run_makeMap (P := Try.prog) 84 w2
  have MP : MapB (w2.alloc (.map #[] 0)) w2.heap.size triV intV [] := MapB.made _ _ rfl _ _
  have hmu := run_mapUpdate_x MP keyOkTri Try.underlying84 (⟨sa, sb, 0⟩ : TriL) (0 : Int)
  have HMP := MP.put (⟨sa, sb, 0⟩ : TriL) (0 : Int)
  have hgr : (w2.alloc (.map #[] 0)).grownBy _ (some w2.heap.size) := setBlock_grown (b := w2.heap.size) (mapObj triV intV (mput ([] : List (TriL × Int)) ⟨sa, sb, 0⟩ (0 : Int)))
  have TB2 := Lib.hid (TB.out.alloc (.map #[] 0))
  have kt := TB2.out.cell; have lt := TB2.out.lt
  have b3 : Below w.heap.size w (w2.alloc (.map #[] 0)) := b2.alloc b2.size _
  have MA3 := Lib.hid (MA2.out.alloc (.map #[] 0)); have MB3 := Lib.hid (MB2.out.alloc (.map #[] 0)); have MR3 := Lib.hid (MR2.out.alloc (.map #[] 0))
  have MPH := Lib.hid MP
  rw [show mput ([] : List (TriL × Int)) ⟨sa, sb, 0⟩ (0 : Int) = [(⟨sa, sb, 0⟩, 0)] from rfl] at hmu HMP hgr
  have nb := fun (k : Nat) (cs : Array Value) (ty : TypeId) (h : Blk (w2.alloc (.map #[] 0)) k cs ty) => h.grown hgr (fun e => blk_ne_map h MP (by simpa using e))
  have MA4 := Lib.hid (nb _ _ _ MA3.out); have MB4 := Lib.hid (nb _ _ _ MB3.out); have MR4 := Lib.hid (nb _ _ _ MR3.out); have TB4 := Lib.hid (nb _ _ _ TB2.out)
  have b4 := b3.grown hgr b3.size (fun k hk => by cases hk; have := b2.size; omega)
  have hs4 : Hid ((Go.ChangeMaps.setBlock (w2.alloc (.map #[] 0)) w2.heap.size (mapObj triV intV [(⟨sa, sb, 0⟩, 0)])).heap.size = tb + 2) := Lib.hid (by simp [Go.ChangeMaps.setBlock]; have := HW2.out; omega)
  generalize Go.ChangeMaps.setBlock (w2.alloc (.map #[] 0)) w2.heap.size (mapObj triV intV [(⟨sa, sb, 0⟩, 0)]) = w4 at *
  have hmu2 : (Instr.mapUpdate 84 (.map (some w2.heap.size)) (.agg #[.int .i64 sa, .int .i64 sb, .int .i64 0]) (.int .i64 0)).run Try.prog (w2.alloc (.map #[] 0)) = .ok () w4 := hmu
  clear hmu nb MP MA3 MB3 MR3 MA2 MB2 MR2 b3 MPH
  go_upto_region 8 with fail
  have HMP4 := Lib.hid HMP
  have hmpb : w.heap.size ≤ w2.heap.size := b2.size
  clear hmm hmu2 HMP hgr kt lt TB TB2 b2
  generalize w2.heap.size = mpb at *
  have kt := TB4.out.cell; have lt := TB4.out.lt
  have ka := MA4.out.cell; have la := MA4.out.lt
  go_upto_region 11 with fail
  have C0 : Co w sa AA a.states.length ca sb AB b.states.length cb mpb (w4.heap.size + 1) ((w4.alloc (.cells #[.int .i64 sa, .int .i64 sb, .int .i64 0] 83)).alloc (.cells #[.int .i64 0, .slice none 0 0] 28)) (numD [⟨sa, sb, 0⟩]) (.slice (some ⟨w4.heap.size, 0, none⟩) 1 1) [⟨sa, sb, 0⟩] (.slice none 0 0) [] [] := by
    have h1 := World.ownsRow_lit (base := w.heap.size) (e := 83) (size := 3) w4 #[.int .i64 sa, .int .i64 sb, .int .i64 0] 1 b4.size (by simp [maxLen]) rfl
    have h2 := h1.alloc (.cells #[.int .i64 0, .slice none 0 0] 28)
    refine ⟨(MA4.out.alloc _).alloc _, (MB4.out.alloc _).alloc _, (MR4.out.alloc _).alloc _, (HMP4.out.alloc _).alloc _, ?_, Blk.new' (by simp), OwnStV.nil _ _, (b4.alloc b4.size _).alloc (by simp; have := b4.size; omega) _, hmpb, by have := hs4.out; omega⟩
    simpa [triC] using h2
  have HC0 := Lib.hid C0
  clear C0 MA4 MB4 MR4 TB4 HMP4 kt lt ka la b4
  generalize (w4.alloc (.cells #[.int .i64 sa, .int .i64 sb, .int .i64 0] 83)).alloc (.cells #[.int .i64 0, .slice none 0 0] 28) = w5 at *
  generalize hmk : w4.heap.size + 1 = mk at *
  generalize w4.heap.size = tr0 at *
  clear hmk hs4 HW2 hmpb
  go_loopg [9, 11] 61 (fun g tv cv wx => ∃ (T : List TriL) (sv : Value) (vs : List Value) (S : List StateL) (cnt : Nat), CoInv a b T S ∧ Co w sa AA a.states.length ca sb AB b.states.length cb mpb mk wx (numD T) tv T sv vs S ∧ T.length ≤ 60 ∧ cv = .int .i64 cnt ∧ cnt = arcsOf S ∧ cnt ≤ 400 ∧ g + S.length = 61)
  case atStart => exact ⟨[⟨sa, sb, 0⟩], _, [], [], 0, by have := I0.out; exact this, HC0.out, by simp, rfl, rfl, by omega, by simp⟩
  case round =>
    obtain ⟨T, sv, vs, S, cnt, hI, hC, hT, rfl, hcnt, hc4, hg⟩ := hrel
    have HI := Lib.hid hI; have HC := Lib.hid hC
    have hle := hI.le
    obtain ⟨tA, tc, rfl, -, -⟩ := own_form hC.tr
    obtain ⟨sA, sc, hsv, -, -⟩ := own_form hC.own.row
    subst hsv
    have km := hC.mc.cell; have lm := hC.mc.lt
    have HCNT := Lib.hid hcnt
    clear hI hC hcnt
    by_cases hlt : S.length < T.length
    · have i1 : (S.length : Int) < (T.length : Int) := by omega
      have i0 : (0 : Int) ≤ (S.length : Int) := by omega
      have htg : T[S.length]? = some T[S.length] := List.getElem?_eq_getElem hlt
      have hrng := HI.out.rng _ (List.getElem_mem hlt)
      have hrt := Rd.of_own HC.out.tr
      have rdT := hrt.rdy
      have hcell : ∀ j, (hj : j < 3) → wr.cell? ⟨blk tA, ofs tA + (S.length * 3 + j), none⟩ = (triC T[S.length])[j]? := fun j hj => by
        have e := flatMap_at triC 3 (fun _ => rfl) T S.length hlt j hj
        have hs : (triC T[S.length])[j]? = some ((triC T[S.length])[j]'hj) := List.getElem?_eq_getElem hj
        rw [hs]
        exact hrt.at' (e.trans hs)
      have c0 := hcell 0 (by omega); have c1 := hcell 1 (by omega); have c2 := hcell 2 (by omega)
      generalize T[S.length] = t at *
      simp only [triC, Nat.add_zero, List.getElem?_cons_zero, List.getElem?_cons_succ, ← Nat.add_assoc] at c0 c1 c2
      have lt0 := World.block_lt_of_cell? _ _ c0
      have ka := HC.out.ma.cell 0; have ka1 := HC.out.ma.cell 1; have kb := HC.out.mb.cell 0; have kb1 := HC.out.mb.cell 1; have km1 := HC.out.mc.cell 1
      simp only [List.getElem?_toArray, List.getElem?_cons_zero, List.getElem?_cons_succ] at ka ka1 kb kb1 km1
      have HTG := Lib.hid htg
      have EXt := Lib.hid (fun W h => EX.out t W h hrng)
      have HBW := Lib.hid HC.out.bel
      clear hrt hcell htg lt0 km lm
      unfold triV at EXt
      go_upto_region 12 with fail
      have KS : ∀ W, Below wr.heap.size wr W → W.cell? ⟨w.heap.size, 0, none⟩ = some (.int .i64 sa) ∧ W.cell? ⟨w.heap.size, 1, none⟩ = some (.slice AA a.states.length ca) ∧ W.cell? ⟨w.heap.size + 1, 0, none⟩ = some (.int .i64 sb) ∧ W.cell? ⟨w.heap.size + 1, 1, none⟩ = some (.slice AB b.states.length cb) ∧ W.cell? ⟨mk, 1, none⟩ = some (.slice sA S.length sc) ∧ W.cell? ⟨blk tA, ofs tA + S.length * 3, none⟩ = some (.int .i64 t.a) ∧ W.cell? ⟨blk tA, ofs tA + S.length * 3 + 1, none⟩ = some (.int .i64 t.b) ∧ W.cell? ⟨blk tA, ofs tA + S.length * 3 + 2, none⟩ = some (.int .i64 t.f) ∧ Below wr.heap.size wr W := fun W q => ⟨cellB q ka, cellB q ka1, cellB q kb, cellB q kb1, cellB q km1, cellB q c0, cellB q c1, cellB q c2, q⟩
      go_cut [12, 13, 14] (fun fv hv ev wx => ∃ A c, fv = .int .i64 (finT a b t) ∧ hv = .slice A (hopsX a b t).length c ∧ ev = .int .i64 0 ∧ wx.ownsRow w.heap.size 92 6 (.slice A (hopsX a b t).length c) (hopsX a b t).length ((hopsX a b t).flatMap hopCells) ∧ Below wr.heap.size wr wx)
      case first =>
        have hSz := HBW.out.size
        go_region_held3 (fun w' => w'.cell? ⟨w.heap.size, 0, none⟩ = some (.int .i64 sa) ∧ w'.cell? ⟨w.heap.size, 1, none⟩ = some (.slice AA a.states.length ca) ∧ w'.cell? ⟨w.heap.size + 1, 0, none⟩ = some (.int .i64 sb) ∧ w'.cell? ⟨w.heap.size + 1, 1, none⟩ = some (.slice AB b.states.length cb) ∧ w'.cell? ⟨mk, 1, none⟩ = some (.slice sA S.length sc) ∧ w'.cell? ⟨blk tA, ofs tA + S.length * 3, none⟩ = some (.int .i64 t.a) ∧ w'.cell? ⟨blk tA, ofs tA + S.length * 3 + 1, none⟩ = some (.int .i64 t.b) ∧ w'.cell? ⟨blk tA, ofs tA + S.length * 3 + 2, none⟩ = some (.int .i64 t.f) ∧ Below wr.heap.size wr w') (first | (exact KS _ (Below.refl _ _).drew) | (refine KS _ ?_; (try go_split_ands); first | exact Below.step (a := wr) (by assumption) bn | assumption)) (first | (go_at_call 36; go_split_ands; refine (EXt.out _ (Below.trans HBW.out (Below.mono (show Below wr.heap.size wr _ by assumption) hSz))).mono ?_; rintro e wn ⟨A9, c9, rfl, ho9, bn⟩))
        all_goals
          go_wp2_with fail
          go_meet
          case rel => exact ⟨A9, c9, rfl, rfl, rfl, own_mono ho9 hSz, by go_split_ands; assumption⟩
      case rest =>
        obtain ⟨hA, hc, rfl, rfl, rfl, hrow, bx⟩ := hcut
        have HCx := Lib.hid (HC.out.keep bx)
        have HROW := Lib.hid hrow
        have HNXT := Lib.hid (fun T' L hi => HNX.out T T' S L t HI.out HTG.out hi)
        have hnl := HHL.out t
        clear hrow bx c0 c1 c2 ka ka1 kb kb1 km1 KS HC EXt rdT
        have HRT : Hid (∀ h ∈ hopsX a b t, h.goes.a < a.states.length ∧ h.goes.b < b.states.length ∧ h.goes.f ≤ 2) := Lib.hid (fun h hm => HRG.out t ⟨hrng.1, hrng.2.1⟩ h hm)
        generalize hhs : hopsX a b t = hs at *
        have HHS := Lib.hid hhs; clear hhs
        generalize finT a b t = ft at *
        obtain ⟨wx, rfl⟩ : ∃ wx : World, wx = wc := ⟨_, rfl⟩
        go_upto_region 17 with fail
        have HC2 := Lib.hid (HCx.out.keep (W' := wx.alloc (.cells #[.int .i64 ft, .slice none 0 0] 59)) (by repeat' (first | exact Below.refl _ _ | assumption | refine Below.drew ?_ | refine Below.alloc ?_ (by first | omega | (simp; done) | (simp; omega)) _ | refine Below.setCell ?_ (by first | omega | (simp; done) | (simp; omega)) _)))
        have XB := Lib.hid (Blk.new wx #[.int .i64 ft, .slice none 0 0] 59)
        have HR2 := Lib.hid (own_below HROW.out (show Below wx.heap.size wx (wx.alloc (.cells #[.int .i64 ft, .slice none 0 0] 59)) from (by repeat' (first | exact Below.refl _ _ | assumption | refine Below.drew ?_ | refine Below.alloc ?_ (by first | omega | (simp; done) | (simp; omega)) _ | refine Below.setCell ?_ (by first | omega | (simp; done) | (simp; omega)) _))) (Nat.le_refl _))
        have hvs : ∀ i (hi : i < vs.length) k, vs[i].ownBlock = some k → k < (wx.alloc (.cells #[.int .i64 ft, .slice none 0 0] 59)).heap.size := fun i hi k hk => by
          have := ((HC2.out.own.arcs i (by have := HC2.out.own.len; omega) hi).lt k hk).2
          exact this
        have hsx : (Value.slice sA S.length sc).ownBlock ≠ some wx.heap.size := own_lt HCx.out.own.row (Nat.le_refl _)
        have hwx : w.heap.size ≤ wx.heap.size := HCx.out.size
        have hBx : wx.heap.size < (wx.alloc (.cells #[.int .i64 ft, .slice none 0 0] 59)).heap.size := by simp
        have HVS := Lib.hid hvs
        clear hvs HCx HROW
        generalize wx.alloc (.cells #[.int .i64 ft, .slice none 0 0] 59) = w6 at *
        generalize wx.heap.size = xb at *
        generalize hBa : w6.heap.size = Ba at *
        have HBA := Lib.hid hBa; clear hBa
        have hwB : w.heap.size ≤ Ba := by omega
        go_loopw [9, 11, 74] (fun tv cv kv wx => ∃ (k : Nat) (T2 : List TriL) (L : List ArcL) (av : Value) (c2 : Nat), CoIn T T2 hs k L ∧ Co w sa AA a.states.length ca sb AB b.states.length cb mpb mk wx (numD T2) tv T2 (.slice sA S.length sc) vs S ∧ wx.ownsRow w.heap.size 92 6 (.slice hA hs.length hc) hs.length (hs.flatMap hopCells) ∧ Blk wx xb #[.int .i64 ft, av] 59 ∧ OwnArcs wx Ba av L ∧ cv = .int .i64 c2 ∧ c2 = arcsOf S + k ∧ c2 ≤ 400 ∧ T2.length ≤ 60 ∧ kv = .int .i64 k ∧ Ba ≤ wx.heap.size) (fun _ _ kv _ => hs.length - (intOf kv).toNat)
        case atStart => exact ⟨0, T, [], _, cnt, ⟨Grows.refl _, HI.out.nd, rfl, by omega, fun t h => .inl h, fun j h e _ he => by simp at he⟩, HC2.out, HR2.out, XB.out, OwnArcs.nil _ _, rfl, HCNT.out, hc4, hT, rfl, by have := HBA.out; omega⟩
        case round =>
          obtain ⟨k, T2, L, av, c2, hIn, hC, hR, hX, hA2, rfl, hc2, hc24, hT2, rfl, hBw⟩ := hrel
          have HIN := Lib.hid hIn; have HCk := Lib.hid hC; have HRk := Lib.hid hR; have HXk := Lib.hid hX; have HAk := Lib.hid hA2; have HC2K := Lib.hid hc2
          have hkl := hIn.lt
          obtain ⟨tA2, tc2, rfl, -, -⟩ := own_form hC.tr
          have k0 : (0 : Int) ≤ (k : Int) := by omega
          clear hIn hC hR hX hA2 hc2
          by_cases hlt2 : k < hs.length
          · have k1 : (k : Int) < (hs.length : Int) := by omega
            have hrh := Rd.of_own HRk.out
            have rdH := hrh.rdy
            have hcell : ∀ j, (hj : j < 6) → wr.cell? ⟨blk hA, ofs hA + (k * 6 + j), none⟩ = (hopCells hs[k])[j]? := fun j hj => by
              have e := flatMap_at hopCells 6 (fun _ => rfl) hs k hlt2 j hj
              have hs' : (hopCells hs[k])[j]? = some ((hopCells hs[k])[j]'hj) := List.getElem?_eq_getElem hj
              rw [hs']
              exact hrh.at' (e.trans hs')
            have hstep := HIN.out.step hlt2
            have c0 := hcell 0 (by omega); have c1 := hcell 1 (by omega); have c2' := hcell 2 (by omega); have c3 := hcell 3 (by omega); have c4 := hcell 4 (by omega); have c5 := hcell 5 (by omega)
            generalize hs[k] = h at *
            simp only [hopCells, Nat.add_zero, List.getElem?_cons_zero, List.getElem?_cons_succ, ← Nat.add_assoc] at c0 c1 c2' c3 c4 c5
            have lh := World.block_lt_of_cell? _ _ c0
            have HSTEP := Lib.hid hstep
            clear hrh hcell hstep
            go_upto_region 19 with fail
            have b7 : Below wr.heap.size wr (wr.alloc (.cells #[.int .i64 h.inn, .int .i64 h.out, .int .i64 h.wt, .int .i64 h.goes.a, .int .i64 h.goes.b, .int .i64 h.goes.f] 92)) := (by repeat' (first | exact Below.refl _ _ | assumption | refine Below.drew ?_ | refine Below.alloc ?_ (by first | omega | (simp; done) | (simp; omega)) _ | refine Below.setCell ?_ (by first | omega | (simp; done) | (simp; omega)) _))
            have HC7 := Lib.hid (HCk.out.keep b7); have HR7 := Lib.hid (own_below HRk.out b7 (Nat.le_refl _)); have HX7 := Lib.hid (HXk.out.step b7); have HA7 := Lib.hid (HAk.out.below b7 (Nat.le_refl _))
            have HH7 := Lib.hid (Blk.new wr #[.int .i64 h.inn, .int .i64 h.out, .int .i64 h.wt, .int .i64 h.goes.a, .int .i64 h.goes.b, .int .i64 h.goes.f] 92)
            have hB7 : Ba ≤ (wr.alloc (.cells #[.int .i64 h.inn, .int .i64 h.out, .int .i64 h.wt, .int .i64 h.goes.a, .int .i64 h.goes.b, .int .i64 h.goes.f] 92)).heap.size := Nat.le_trans hBw b7.size
            clear c0 c1 c2' c3 c4 c5 lh b7 HCk HRk HXk HAk hBw rdH
            generalize wr.alloc (.cells #[.int .i64 h.inn, .int .i64 h.out, .int .i64 h.wt, .int .i64 h.goes.a, .int .i64 h.goes.b, .int .i64 h.goes.f] 92) = w7 at *
            generalize wr.heap.size = hb at *
            have kh := HH7.out.cell; have lhb := HH7.out.lt
            have hlk : (Instr.lookup 84 (.map (some mpb)) (.agg #[.int .i64 h.goes.a, .int .i64 h.goes.b, .int .i64 h.goes.f]) true).run Try.prog w7 = .ok (.tuple #[((assoc (numD T2) h.goes).map intV).getD (.int .i64 0), .bool (assoc (numD T2) h.goes).isSome]) w7 :=
              run_lookup_x HC7.out.mp keyOkTri Try.underlying84 h.goes true (zeroIntT _)
            rw [numD_assoc T2 HIN.out.nd] at hlk
            have hkbq : ∃ (kb : Bool) (qv : Int), (Instr.lookup 84 (.map (some mpb)) (.agg #[.int .i64 h.goes.a, .int .i64 h.goes.b, .int .i64 h.goes.f]) true).run Try.prog w7 = .ok (.tuple #[.int .i64 qv, .bool kb]) w7 ∧ ((kb = true ∧ h.goes ∈ T2 ∧ qv = (T2.idxOf h.goes : Nat)) ∨ (kb = false ∧ h.goes ∉ T2)) := by
              by_cases hm : h.goes ∈ T2
              · rw [if_pos hm] at hlk
                exact ⟨true, _, hlk, .inl ⟨rfl, hm, rfl⟩⟩
              · rw [if_neg hm] at hlk
                exact ⟨false, 0, hlk, .inr ⟨rfl, hm⟩⟩
            clear hlk
            obtain ⟨kb, qv, hlk, hkb⟩ := hkbq
            have HKB := Lib.hid hkb
            clear hkb
            go_upto_if 86 with fail
            clear hlk
            go_cut [9, 18] (fun tv2 qv2 wx => qv2 = .int .i64 ((T2.idxOf h.goes : Nat) : Int) ∧ Co w sa AA a.states.length ca sb AB b.states.length cb mpb mk wx (numD (coStep T2 h)) tv2 (coStep T2 h) (.slice sA S.length sc) vs S ∧ wx.ownsRow w.heap.size 92 6 (.slice hA hs.length hc) hs.length (hs.flatMap hopCells) ∧ Blk wx xb #[.int .i64 ft, av] 59 ∧ OwnArcs wx Ba av L ∧ Blk wx hb #[.int .i64 h.inn, .int .i64 h.out, .int .i64 h.wt, .int .i64 h.goes.a, .int .i64 h.goes.b, .int .i64 h.goes.f] 92 ∧ Ba ≤ wx.heap.size)
            case first =>
              rcases HKB.out with ⟨rfl, hm, rfl⟩ | ⟨rfl, hm⟩
              · have HE : Hid (coStep T2 h = T2) := Lib.hid (if_pos hm)
                clear hm
                go_wp2_with fail
                go_meet
                case rel => exact ⟨rfl, by rw [HE.out]; exact HC7.out, HR7.out, HX7.out, HA7.out, HH7.out, hB7⟩
              · have HE : Hid (coStep T2 h = T2 ++ [h.goes]) := Lib.hid (if_neg hm)
                have HIX : Hid (T2.idxOf h.goes = T2.length) := Lib.hid (List.idxOf_eq_length hm)
                have hput := mput_new (l := numD T2) (k := h.goes) (v := (T2.length : Int)) (by rw [numD_keys]; exact hm)
                rw [← numD_snoc] at hput
                have hmu := run_mapUpdate_x HC7.out.mp keyOkTri Try.underlying84 h.goes (T2.length : Int)
                have HMP := HC7.out.mp.put h.goes (T2.length : Int)
                have hgr : w7.grownBy _ (some mpb) := setBlock_grown (b := mpb) (mapObj triV intV (mput (numD T2) h.goes (T2.length : Int)))
                rw [hput] at hmu HMP hgr
                have hc8 := HC7.out.map HMP hgr
                have hr8 := HR7.out.kept hgr (.inr (row_ne_map HR7.out HC7.out.mp))
                have hx8 := HX7.out.grown hgr (fun e => blk_ne_map HX7.out HC7.out.mp (by simpa using e))
                have ha8 : OwnArcs _ Ba av L := HA7.out.grown hgr (.inr (row_ne_map HA7.out HC7.out.mp))
                have hh8 := HH7.out.grown hgr (fun e => blk_ne_map HH7.out HC7.out.mp (by simpa using e))
                have hb8 := Nat.le_trans hB7 hgr.size
                generalize Go.ChangeMaps.setBlock w7 mpb (mapObj triV intV (numD (T2 ++ [h.goes]))) = w8 at *
                have hmu2 : (Instr.mapUpdate 84 (.map (some mpb)) (.agg #[.int .i64 h.goes.a, .int .i64 h.goes.b, .int .i64 h.goes.f]) (.int .i64 T2.length)).run Try.prog w7 = .ok () w8 := hmu
                have HC8 := Lib.hid hc8; have HR8 := Lib.hid hr8; have HX8 := Lib.hid hx8; have HA8 := Lib.hid ha8; have HH8 := Lib.hid hh8
                clear hm hput hmu HMP hgr hc8 hr8 hx8 ha8 hh8 HC7 HR7 HX7 HA7
                go_upto_region 23 with fail
                clear hmu2 kh lhb
                have kh := HH8.out.cell; have lhb := HH8.out.lt
                have hwz := HC8.out.size
                go_wp2_with (at_builtin; refine wpList_app1 rfl _ _ rfl eltTri w.heap.size (.slice tA2 T2.length tc2) T2.length (T2.flatMap triC) rfl w8 HC8.out.tr #[.int .i64 h.goes.a, .int .i64 h.goes.b, .int .i64 h.goes.f] rfl w8.heap.size rfl rfl rfl (by simp [Value.oneCell']) (by omega) (by omega) hwz ?_; intro g2 cap2 w9 hown2 hg2 hat2 hlt6)
                go_meet
                case rel =>
                  have hrow := HC8.out.tr
                  have hn : w9.ownsRow w.heap.size 83 3 (.slice (some ⟨g2, 0, none⟩) (T2.length + 1) cap2) (T2 ++ [h.goes]).length ((T2 ++ [h.goes]).flatMap triC) := by
                    rw [List.length_append, List.flatMap_append]
                    simpa [triC] using hown2
                  refine ⟨by rw [HIX.out], by rw [HE.out]; exact HC8.out.todo hg2 hn, HR8.out.kept hg2 (own_ne HR8.out hrow (by decide)), HX8.out.grown hg2 (fun e => row_ne_blk hrow HX8.out (by decide) e.symm), HA8.out.grown hg2 (own_ne HA8.out hrow (by decide)), HH8.out.grown hg2 (fun e => row_ne_blk hrow HH8.out (by decide) e.symm), Nat.le_trans hb8 hg2.size⟩
            case rest =>
              obtain ⟨rfl, hC9, hR9, hX9, hA9, hH9, hB9⟩ := hcut
              have HC9 := Lib.hid hC9; have HR9 := Lib.hid hR9; have HX9 := Lib.hid hX9; have HA9 := Lib.hid hA9; have HH9 := Lib.hid hH9
              obtain ⟨tA3, tc3, rfl, -, -⟩ := own_form hC9.tr
              have hcl := (coStep_len T2 h).2
              have HARC : Hid (coArc T2 h = ⟨h.inn, h.out, h.wt, ((T2.idxOf h.goes : Nat) : Int)⟩) := Lib.hid rfl
              have hwr : IntKind.i64.wrap (↑c2 + 1) = ↑c2 + 1 := IntWalk.i64_in _ (by omega)
              clear hC9 hR9 hX9 hA9 hH9 HKB kh lhb
              obtain ⟨w9, rfl⟩ : ∃ wx : World, wx = wc := ⟨_, rfl⟩
              have kh := HH9.out.cell; have lhb := HH9.out.lt
              have kr := HC9.out.rk.cell; have fr := HC9.out.rk.froz; have lr := HC9.out.rk.lt
              generalize coStep T2 h = T3 at *
              generalize T2.idxOf h.goes = qi at *
              have EXIT : Hid (∀ W', W' = (w9.setCell ⟨w.heap.size + 2, 0, none⟩ (.int .i64 0)).setCell ⟨w.heap.size + 2, 1, none⟩ (.slice none 0 0) → Blk W' (w.heap.size + 2) #[.int .i64 0, .slice none 0 0] 28 ∧ Below w.heap.size w W') := Lib.hid (fun W' e => by
                subst e
                exact ⟨((HC9.out.rk.put 0 _).put 1 _).eq (by simp), (HC9.out.bel.setCell (p := ⟨w.heap.size + 2, 0, none⟩) (Nat.le_add_right _ _) _).setCell (p := ⟨w.heap.size + 2, 1, none⟩) (Nat.le_add_right _ _) _⟩)
              by_cases ho1 : 400 < c2 + 1
              · have e1 : (400 : Int) < (c2 : Int) + 1 := by omega
                have WHY : Hid (FullWhy a b) := Lib.hid (.inr ⟨T, S, t, HI.out, HTG.out, by rw [HHS.out]; have := HC2K.out; omega⟩)
                go_wp2_with fail
                obtain ⟨Z, bz⟩ := EXIT.out _ rfl
                clear EXIT kr fr lr kh lhb
                generalize (w9.setCell ⟨w.heap.size + 2, 0, none⟩ (.int .i64 0)).setCell ⟨w.heap.size + 2, 1, none⟩ (.slice none 0 0) = W' at *
                have kz := Z.cell; have lz := Z.lt
                refine bodyPost_ret (v := .tuple #[.agg #[.int .i64 0, .slice none 0 0], .int .i64 5]) (by simp [results, Try.results19, go_sem, *]) rfl ⟨.inl ⟨rfl, WHY.out⟩, bz⟩
              · have e1 : ¬ (400 : Int) < (c2 : Int) + 1 := by omega
                by_cases ho2 : 60 < T3.length
                · have e2 : (60 : Int) < (T3.length : Int) := by omega
                  have WHY : Hid (FullWhy a b) := Lib.hid (.inl ⟨T3, HSTEP.out.nd, fun u hu => by
                    rcases HSTEP.out.mem u hu with g | ⟨h9, hm9, rfl⟩
                    · exact HI.out.rng u g
                    · exact HRT.out h9 hm9, by omega⟩)
                  go_wp2_with fail
                  obtain ⟨Z, bz⟩ := EXIT.out _ rfl
                  clear EXIT kr fr lr kh lhb
                  generalize (w9.setCell ⟨w.heap.size + 2, 0, none⟩ (.int .i64 0)).setCell ⟨w.heap.size + 2, 1, none⟩ (.slice none 0 0) = W' at *
                  have kz := Z.cell; have lz := Z.lt
                  refine bodyPost_ret (v := .tuple #[.agg #[.int .i64 0, .slice none 0 0], .int .i64 5]) (by simp [results, Try.results19, go_sem, *]) rfl ⟨.inl ⟨rfl, WHY.out⟩, bz⟩
                · have e2 : ¬ (60 : Int) < (T3.length : Int) := by omega
                  obtain ⟨aA, ac, hav, -, -⟩ := own_form HA9.out
                  subst hav
                  have kx := HX9.out.cell; have lx := HX9.out.lt
                  have hLk : L.length = k := HIN.out.len
                  have hL4 : L.length ≤ 400 := by have := HC2K.out; omega
                  have HLK := Lib.hid hLk
                  have hgx : ∀ (W' : World) (row : Option Nat), w9.grownBy W' row → row = (Value.slice aA L.length ac).ownBlock → Blk W' xb #[.int .i64 ft, .slice aA L.length ac] 59 := fun W' row hg e => HX9.out.grown hg (fun e2 => row_ne_blk HA9.out HX9.out (by decide) (e.symm.trans e2.symm))
                  have HGX := Lib.hid hgx
                  clear hLk hgx EXIT kr fr lr
                  go_wp2_with (at_builtin; refine wpList_app1 rfl _ _ rfl eltArc Ba (.slice aA L.length ac) L.length (arcsCells L) rfl w9 HA9.out #[.int .i64 h.inn, .int .i64 h.out, .int .i64 h.wt, .int .i64 qi] rfl w9.heap.size rfl rfl rfl (by simp [Value.oneCell']) (by omega) (by omega) hB9 ?_; intro g2 cap2 w10 hown2 hg2 hat2 hlt6; have kx2 := (HGX.out w10 _ hg2 rfl).cell; have fx2 := (HGX.out w10 _ hg2 rfl).froz; have lx2 := (HGX.out w10 _ hg2 rfl).lt)
                  have hx10 := HGX.out w10 _ hg2 rfl
                  have ho10 : OwnArcs w10 Ba (.slice (some ⟨g2, 0, none⟩) (L.length + 1) cap2) (L ++ [coArc T2 h]) := by
                    unfold OwnArcs
                    rw [arcsCells_snoc, List.length_append, HARC.out]
                    simpa [arcCells] using hown2
                  have HCn := Lib.hid ((HC9.out.arcs HA9.out hwB hB9 HVS.out hg2).box (o := 1) hx10 (by omega) hsx (.slice (some ⟨g2, 0, none⟩) (L.length + 1) cap2))
                  have HRn := Lib.hid (own_setCell (a := ⟨xb, 1, none⟩) (HR9.out.kept hg2 (own_ne HR9.out HA9.out (by decide))) (row_ne_blk (HR9.out.kept hg2 (own_ne HR9.out HA9.out (by decide))) hx10 (by decide)) (.slice (some ⟨g2, 0, none⟩) (L.length + 1) cap2))
                  have HXn := Lib.hid ((hx10.put 1 (.slice (some ⟨g2, 0, none⟩) (L.length + 1) cap2)).eq (show _ = #[.int .i64 ft, .slice (some ⟨g2, 0, none⟩) (L.length + 1) cap2] by simp))
                  have HAn := Lib.hid (ho10.setCell (a := ⟨xb, 1, none⟩) (row_ne_blk ho10 hx10 (by decide)) (.slice (some ⟨g2, 0, none⟩) (L.length + 1) cap2))
                  have hBn : Ba ≤ (w10.setCell ⟨xb, 1, none⟩ (.slice (some ⟨g2, 0, none⟩) (L.length + 1) cap2)).heap.size := by have := hg2.size; simp [World.setCell]; omega
                  clear hx10 ho10 hown2 hg2 hat2 hlt6 kx2 fx2 lx2
                  go_roundw
                  case rel => exact ⟨k + 1, T3, L ++ [coArc T2 h], _, c2 + 1, HSTEP.out, HCn.out, HRn.out, HXn.out, HAn.out, by go_num, by have := HC2K.out; omega, by omega, by omega, by go_num, hBn⟩
                  case measure => simp [intOf]; omega
          · obtain rfl : k = hs.length := by omega
            have k1 : ¬ (↑hs.length : Int) < ↑hs.length := by omega
            obtain ⟨aA, ac, hav, -, -⟩ := own_form HAk.out
            subst hav
            have kx := HXk.out.cell; have lx := HXk.out.lt
            have km := HCk.out.mc.cell; have lm := HCk.out.mc.lt
            have hLk : L.length = hs.length := HIN.out.len
            have HLK := Lib.hid hLk
            have hwz := HCk.out.size
            have HNX2 : Hid (CoInv a b T2 (S ++ [⟨ft, L⟩])) := Lib.hid (HNXT.out T2 L HIN.out)
            have hmk : ∀ (W' : World) (row : Option Nat), wr.grownBy W' row → row = (Value.slice sA S.length sc).ownBlock → Blk W' mk #[.int .i64 0, .slice sA S.length sc] 28 := fun W' row hg e => HCk.out.mc.grown hg (fun e2 => row_ne_blk HCk.out.own.row HCk.out.mc (by decide) (e.symm.trans e2.symm))
            have HMK := Lib.hid hmk
            clear hLk hmk
            go_wp2_with (at_builtin; refine wpList_app1 rfl _ _ rfl eltState w.heap.size (.slice sA S.length sc) S.length (statesCells ((S.map (·.final)).zip vs)) rfl wr HCk.out.own.row #[.int .i64 ft, .slice aA L.length ac] rfl wr.heap.size rfl rfl rfl (by simp [Value.oneCell']) (by omega) (by omega) hwz ?_; intro g2 cap2 w10 hown2 hg2 hat2 hlt6; have kx2 := (HMK.out w10 _ hg2 rfl).cell; have fx2 := (HMK.out w10 _ hg2 rfl).froz; have lx2 := (HMK.out w10 _ hg2 rfl).lt)
            have HCn := Lib.hid (HCk.out.state ⟨ft, L⟩ (HAk.out.mono hwB) hg2 rfl hown2)
            clear hown2 hg2 hat2 hlt6 kx2 fx2 lx2
            go_roundg (gk - 1)
            case measure => omega
            case rel => exact ⟨T2, _, _, _, c2, HNX2.out, HCn.out, hT2, rfl, by have := HC2K.out; have := HLK.out; simp [arcsOf] at *; omega, hc24, by simp; omega⟩
    · have hST : S.length = T.length := by omega
      have i1 : ¬ (S.length : Int) < (T.length : Int) := by omega
      have kr := HC.out.rk.cell; have fr := HC.out.rk.froz; have lr := HC.out.rk.lt
      have HST := Lib.hid hST
      have hne : w.heap.size + 2 ≠ mk := by have := HC.out.g2; omega
      clear hST
      go_wp2_with fail
      have Z := ((HC.out.rk.put 0 (.int .i64 0)).put 1 (.slice sA S.length sc)).eq (show _ = #[.int .i64 0, .slice sA S.length sc] by simp)
      have bz : Below w.heap.size w ((wr.setCell ⟨w.heap.size + 2, 0, none⟩ (.int .i64 0)).setCell ⟨w.heap.size + 2, 1, none⟩ (.slice sA S.length sc)) := (HC.out.bel.setCell (p := ⟨w.heap.size + 2, 0, none⟩) (Nat.le_add_right _ _) _).setCell (p := ⟨w.heap.size + 2, 1, none⟩) (Nat.le_add_right _ _) _
      have hO : OwnStV ((wr.setCell ⟨w.heap.size + 2, 0, none⟩ (.int .i64 0)).setCell ⟨w.heap.size + 2, 1, none⟩ (.slice sA S.length sc)) w.heap.size (.slice sA S.length sc) vs S := by
        have hw := HC.out.own
        have h1 := fun (i : Nat) (hi : i < S.length) (hi' : i < vs.length) => row_ne_blk (hw.arcs i hi hi') HC.out.rk (by decide)
        have h2 := row_ne_blk hw.row HC.out.rk (by decide)
        exact ⟨hw.len, own_setCell (own_setCell hw.row h2 _) h2 _, fun i hi hi' => ((hw.arcs i hi hi').setCell (h1 i hi hi') _).setCell (h1 i hi hi') _⟩
      have HO := Lib.hid hO
      clear kr fr lr hO km lm
      generalize (wr.setCell ⟨w.heap.size + 2, 0, none⟩ (.int .i64 0)).setCell ⟨w.heap.size + 2, 1, none⟩ (.slice sA S.length sc) = W' at *
      have kz := Z.cell; have lz := Z.lt
      refine bodyPost_ret (v := .tuple #[.agg #[.int .i64 0, .slice sA S.length sc], .int .i64 0]) (by simp [results, Try.results19, go_sem, *]) rfl ⟨.inr ⟨_, ⟨0, S⟩, T, rfl, ⟨_, rfl, _, HO.out⟩, HI.out.done HST.out, by have := HST.out; simp only; omega, by have := HCNT.out; simp only; omega⟩, bz⟩
end Go.Proofs.Ytikkmoleneioeaa
