/- The walk of CoreTells. -/
import Derived.Test.YtgepgokaodcpcaaBitsWalk
import Derived.Test.YtgepgokaodcpcaaCount
import Derived.Test.YtgepgokaodcpcaaTells
import Derived.Test.YtgepgokaodcpcaaMemSet
namespace Go.Proofs.Ytgepgokaodcpcaa
open Go.RowKit
open Go.ChangeMaps (setBlock)

def putArcs (m : MachL) (q : Nat) (hq : q < m.states.length) (l : List ArcL) : MachL := ⟨m.start, m.states.set q ⟨m.states[q].final, l⟩⟩

theorem own_mach {w : World} {B : Nat} {v : Value} {vs : List Value} {m : MachL} (h : OwnStV w B v vs m.states) : MachAt w (.agg #[.int .i64 m.start, v]) m := OwnMach.at_ ⟨_, rfl, vs, h⟩
theorem below_nil {B : Nat} {w0 wr w' : World} (h : Below B w0 wr) (hg : wr.grownBy w' (Value.slice none 0 0).ownBlock) (hB : B ≤ wr.heap.size) : Below B w0 w' := h.grown hg hB (fun k hk => by simp [Value.ownBlock] at hk)
theorem grown_new {w w' : World} {cs : Array Value} {t : TypeId} (hg : (w.alloc (.cells cs t)).drew.grownBy w' (Value.slice none 0 0).ownBlock) : w'.heap[w.heap.size]? = some (.cells cs t (0, 0)) :=
  (hg.block _ (by simp) (by simp [Value.ownBlock])).trans (heap_alloc_new w _)
theorem arcs_one (l : List ArcL) : ∀ u ∈ arcsCells l, u.oneCell' = true := by
  intro u hu
  obtain ⟨a, -, ha⟩ := List.mem_flatMap.1 hu
  simp only [arcCells, List.mem_cons, List.not_mem_nil, or_false] at ha
  rcases ha with rfl | rfl | rfl | rfl <;> rfl

/-- what CoreTells holds: the machine, whose states are ss, its box, the bits and counts of before, and the arcs of old -/
structure CT (w wx : World) (st : Int) (g n cg mB aB cB : Nat) (ss : List StateL) (b : BitsL) (n1 n2 n3 : Nat) (A' : Option Addr) (c' : Nat) (l : List ArcL) : Prop where
  own : ∃ vs, OwnStV wx w.heap.size (.slice (some ⟨g, 0, none⟩) n cg) vs ss
  mb : Blk wx mB #[.int .i64 st, .slice (some ⟨g, 0, none⟩) n cg] 49
  ab : Blk wx aB (bitsC b) 56
  cb : Blk wx cB #[.int .i64 n1, .int .i64 n2, .int .i64 n3] 60
  ar : OwnArcs wx w.heap.size (.slice A' l.length c') l
  bel : Below w.heap.size w wx
theorem CT.step {w wx wy : World} {st : Int} {g n cg mB aB cB : Nat} {ss : List StateL} {b : BitsL} {n1 n2 n3 : Nat} {A' : Option Addr} {c' : Nat} {l : List ArcL} (h : CT w wx st g n cg mB aB cB ss b n1 n2 n3 A' c' l) (hb : Below wx.heap.size wx wy) : CT w wy st g n cg mB aB cB ss b n1 n2 n3 A' c' l :=
  ⟨by obtain ⟨vs, o⟩ := h.own; exact ⟨vs, o.below hb (Nat.le_refl _)⟩, h.mb.step hb, h.ab.step hb, h.cb.step hb, h.ar.below hb (Nat.le_refl _), h.bel.trans (hb.mono h.bel.size)⟩
theorem own_apart {w : World} {B g n c : Nat} {vs : List Value} {ss : List StateL} (h : OwnStV w B (.slice (some ⟨g, 0, none⟩) n c) vs ss) {v : Value} {l : List ArcL} (k : OwnArcs w B v l) : v.ownBlock ≠ some g := by
  rcases own_ne k h.row (by decide) with e | e
  · rw [e]; simp
  · simpa [Value.ownBlock] using e
/-- the arcs of state q are put anew -/
theorem CT.put {w wx w8 : World} {st : Int} {g n cg mB aB cB : Nat} {ss : List StateL} {b : BitsL} {n1 n2 n3 : Nat} {A' : Option Addr} {c' : Nat} {l : List ArcL} (h : CT w wx st g n cg mB aB cB ss b n1 n2 n3 A' c' l) (b8 : Below wx.heap.size wx w8) (hmB : mB ≠ g) (haB : aB ≠ g) (hcB : cB ≠ g) (hg : w.heap.size ≤ g)
    (q : Nat) (hq : q < ss.length) {av : Value} {l' : List ArcL} (oa : OwnArcs w8 w.heap.size av l') :
    CT w (w8.setCell ⟨g, q * 2 + 1, none⟩ av) st g n cg mB aB cB (ss.set q ⟨ss[q].final, l'⟩) b n1 n2 n3 A' c' l := by
  have k := h.step b8
  obtain ⟨vs, o⟩ := k.own
  exact ⟨⟨_, o.setArcs q hq oa⟩, k.mb.far hmB _, k.ab.far haB _, k.cb.far hcB _, k.ar.setCell (own_apart o k.ar) _, k.bel.setCell hg _⟩

namespace coreTells
abbrev bitsV (b : BitsL) : Value := .agg (bitsC b)
set_option maxRecDepth 100000 in
set_option maxHeartbeats 8000000 in
theorem walk {w : World} (v : Value) (r : RawL) (hr : RawArg w v r) (at_ : Int) (ha : (Lit.int .i64 at_).wf = true) :
    Calls Try.prog 10 #[v, .int .i64 at_] w fun e w' => e = .returned (.bool true) ∧ Below w.heap.size w w' := by
  have hm : Valid (mkMach r 6 true) := valid_made r 6 true (by omega) (by omega)
  have hml : 1 ≤ (mkMach r 6 true).states.length ∧ (mkMach r 6 true).states.length ≤ 6 := by
    have := mkMach_len r 6 true (by omega)
    have : 1 ≤ mkN r 6 ∧ mkN r 6 ≤ 6 := by unfold mkN; omega
    omega
  have harc : arcsOf (mkMach r 6 true).states ≤ 24 := made_arcs r 6 true (by omega)
  have hful := made_full r 6
  have HMD := Lib.hid (fun W hb => made_any v r 6 true W (hr.below hb) (by omega) (by omega))
  obtain ⟨ha1, ha2⟩ := wf_i64 ha
  obtain ⟨hst, hlen, A, c, rfl, hN⟩ := hr
  generalize mkMach r 6 true = m at *
  have hq0 := pick_lo at_ m.states.length (by omega)
  have hq1 := pick_hi at_ m.states.length (by omega)
  obtain ⟨q, hqe⟩ : ∃ q : Nat, pick at_ m.states.length = (q : Int) := ⟨(pick at_ m.states.length).toNat, by omega⟩
  have hq : q < m.states.length := by omega
  have HQ := Lib.hid hqe
  have HV := Lib.hid hm
  have h1 : Hid (Valid (putArcs m q hq (m.states[q].arcs ++ [⟨0, 0, 0, q⟩]))) := Lib.hid (valid_set hm harc q hq _ ⟨by simp, by simp, by simp, by simp, by simp, by simp, by simp, by simp; omega⟩)
  clear hN hst hlen hq0 hq1 hqe hm
  go_enter Try.func10, Try.ntmps10
  go_wp2_with fail
  refine (HMD.out _ (by repeat' (first | exact Below.refl _ _ | assumption | refine Below.drew ?_ | refine Below.alloc ?_ (by first | omega | (simp; done) | (simp; omega)) _ | refine Below.setCell ?_ (by first | omega | (simp; done) | (simp; omega)) _))).mono ?_; rintro e w1 ⟨mv, rfl, o1, r1⟩
  obtain ⟨sv, rfl, vs, hV⟩ := o1
  obtain ⟨g, cg, rfl, gB, gl, hcg⟩ := hV.addr (by omega)
  have b1 : Below w.heap.size w w1 := ((Below.refl _ _).alloc (Nat.le_refl _) _).trans (r1.mono (by simp))
  have O1 := Lib.hid (hV.mono (Nat.le_of_lt (by simp : w.heap.size < _)))
  clear r1 HMD hV
  go_wp2_with (go_at_call 25; refine (picked_any _ _ _ (by omega) (by omega) (by omega) (by omega)).mono ?_; rintro e w' ⟨rfl, rfl⟩; rw [HQ.out])
  have O1a := Lib.hid (O1.out.below ((Below.refl _ _).alloc (Nat.le_refl _) (.cells #[.int .i64 m.start, .slice (some ⟨g, 0, none⟩) m.states.length cg] 49)) (Nat.le_refl _))
  refine (Bits_any _ m _ (own_mach O1a.out) HV.out).mono ?_; rintro e w2 ⟨rfl, r2⟩
  rw [hful]
  have b2 : Below w.heap.size w w2 := (b1.alloc b1.size _).trans (r2.mono (by have := b1.size; simp; omega))
  have M2 : Hid (Blk w2 w1.heap.size #[.int .i64 m.start, .slice (some ⟨g, 0, none⟩) m.states.length cg] 49) := Lib.hid (Blk.step (Blk.new _ _ _) r2)
  have O2 := Lib.hid (O1a.out.below r2 (Nat.le_refl _))
  have k1 := M2.out.cell; have l2 := M2.out.lt
  clear r2 O1a O1
  go_wp2_with fail
  have O2a := Lib.hid (O2.out.below ((Below.refl _ _).alloc (Nat.le_refl _) (.cells #[.bool (bitsOf m.states).acc, .bool true, .bool (bitsOf m.states).cert, .bool (bitsOf m.states).sorted, .bool (bitsOf m.states).plain] 56)) (Nat.le_refl _))
  refine (Count_any _ m _ (own_mach O2a.out) HV.out).mono ?_; rintro e w3 ⟨rfl, r3⟩
  have b3 : Below w.heap.size w w3 := (b2.alloc b2.size _).trans (r3.mono (by have := b2.size; simp; omega))
  have M3 : Hid (Blk w3 w1.heap.size #[.int .i64 m.start, .slice (some ⟨g, 0, none⟩) m.states.length cg] 49) := Lib.hid ((M2.out.alloc _).step r3)
  have A3 : Hid (Blk w3 w2.heap.size #[.bool (bitsOf m.states).acc, .bool true, .bool (bitsOf m.states).cert, .bool (bitsOf m.states).sorted, .bool (bitsOf m.states).plain] 56) := Lib.hid (Blk.step (Blk.new _ _ _) r3)
  have O3 := Lib.hid (O2a.out.below r3 (Nat.le_refl _))
  clear r3 O2a O2 k1
  have k1 := M3.out.cell; have l3 := M3.out.lt; have l4 := A3.out.lt
  have hqv : q < vs.length := by rw [O3.out.len]; exact hq
  obtain ⟨A', c', hvq, -, -⟩ := (O3.out.arcs q hq hqv).form
  have hcell : w3.cell? ⟨g, q * 2 + 1, none⟩ = some (.slice A' m.states[q].arcs.length c') := by
    rw [← hvq, O3.out.row.cellAt (q * 2 + 1) (by omega)]
    have := flatMap_at stCells 2 (fun _ => rfl) ((m.states.map (·.final)).zip vs) q (by simp [O3.out.len]; exact hq) 1 (by omega)
    rw [statesCells, this]; simp [stCells]
  have lg3 : g < w3.heap.size := World.block_lt_of_cell? _ _ hcell
  go_upto_region 6 with fail
  have hA3 : OwnArcs w3 w.heap.size (.slice A' m.states[q].arcs.length c') m.states[q].arcs := by rw [← hvq]; exact O3.out.arcs q hq hqv
  have hb3 : Below w3.heap.size w3 (w3.alloc (.cells #[.int .i64 m.states.length, .int .i64 (arcsOf m.states), .int .i64 (finals m.states)] 60)) := (Below.refl _ _).alloc (Nat.le_refl _) _
  have hC : CT w (w3.alloc (.cells #[.int .i64 m.states.length, .int .i64 (arcsOf m.states), .int .i64 (finals m.states)] 60)) m.start g m.states.length cg w1.heap.size w2.heap.size w3.heap.size m.states ⟨(bitsOf m.states).acc, true, (bitsOf m.states).cert, (bitsOf m.states).sorted, (bitsOf m.states).plain⟩ m.states.length (arcsOf m.states) (finals m.states) A' c' m.states[q].arcs :=
    ⟨⟨vs, O3.out.below hb3 (Nat.le_refl _)⟩, M3.out.step hb3, A3.out.step hb3, Blk.new _ _ _, hA3.below hb3 (Nat.le_refl _), b3.trans (hb3.mono b3.size)⟩
  have s2 : (w3.alloc (.cells #[.int .i64 m.states.length, .int .i64 (arcsOf m.states), .int .i64 (finals m.states)] 60)).cell? ⟨g, q * 2 + 1, none⟩ = some (.slice A' m.states[q].arcs.length c') := cell_keep hb3 (Nat.le_refl _) hcell
  have s3 : (w3.alloc (.cells #[.int .i64 m.states.length, .int .i64 (arcsOf m.states), .int .i64 (finals m.states)] 60)).frozen? ⟨g, q * 2 + 1, none⟩ = false := (O3.out.below hb3 (Nat.le_refl _)).row.frozenAt _
  have n1 : w1.heap.size ≠ g := by omega
  have n2 : w2.heap.size ≠ g := by omega
  have n3 : w3.heap.size ≠ g := by omega
  have n4 : w.heap.size ≤ g := by simp at gB; omega
  clear hb3 hA3
  generalize w3.alloc (.cells #[.int .i64 m.states.length, .int .i64 (arcsOf m.states), .int .i64 (finals m.states)] 60) = w6 at *
  have HC := Lib.hid hC
  have HRD := Lib.hid (Rd.of_own hC.ar)
  have hlq : m.states[q].arcs.length ≤ 24 := Nat.le_trans (arcs_le_of _ _ (List.getElem_mem hq)) harc
  have s1 := hC.mb.cell
  have lg6 := hC.mb.lt
  have lg7 : g < w6.heap.size := World.block_lt_of_cell? _ _ s2
  have HS2 := Lib.hid s2; have HS3 := Lib.hid s3
  have b06 := hC.bel.size
  clear hcell k1 O3 M3 A3 s2 s3 hC
  have i0 : (0 : Int) ≤ ↑q := by omega
  have i1 : (↑q : Int) < ↑m.states.length := by omega
  go_cut [] (fun wx => CT w wx m.start g m.states.length cg w1.heap.size w2.heap.size w3.heap.size (m.states.set q ⟨m.states[q].final, m.states[q].arcs ++ [⟨0, 0, 0, q⟩]⟩) ⟨(bitsOf m.states).acc, true, (bitsOf m.states).cert, (bitsOf m.states).sorted, (bitsOf m.states).plain⟩ m.states.length (arcsOf m.states) (finals m.states) A' c' m.states[q].arcs)
  case first =>
    go_region_law (first
      | (refine step_of rfl (wp_appR _ _ _ rfl eltArc w6.heap.size (.slice none 0 0) 0 [] rfl (World.ownsRow_nil _ _ _ _) A' m.states[q].arcs.length c' (arcsCells m.states[q].arcs) rfl (by first | exact HRD.out.below ((Below.refl _ _).drew) rfl | exact HRD.out.below (((Below.refl _ _).alloc (Nat.le_refl _) _).drew) rfl) (arcs_one _) (by omega) (by omega) (by simp) ?_); intro v5 w7 ho5 hg5 hat5; have b7 : Below w6.heap.size w6 w7 := (by first | exact below_nil ((Below.refl _ _).drew) hg5 (Nat.le_refl _) | exact below_nil (((Below.refl _ _).alloc (Nat.le_refl _) _).drew) hg5 (by simp)); have m7 := (HC.out.mb.below b7 lg6).cell; have l7 := (HC.out.mb.below b7 lg6).lt)
      | (refine step_app1 rfl _ _ rfl eltArc w6.heap.size v5 _ _ rfl (ho5.alloc _) w7.heap.size #[.int .i64 0, .int .i64 0, .int .i64 0, .int .i64 q] ?_ rfl rfl ?_ ?_ ?_ ?_ ?_; (exact heap_alloc_new w7 _); (simp [Value.oneCell']); omega; omega; (have := b7.size; simp; omega); intro g3 cap w8 ho8 hg8 hat8 hlt8; have b8 : Below w6.heap.size w6 w8 := below_app (b7.alloc b7.size _) (ho5.alloc _) hg8 (Nat.le_refl _) (by have := b7.size; simp; omega); have m8 := (HC.out.mb.below b8 lg6).cell; have l8 := (HC.out.mb.below b8 lg6).lt; have c8 := cell_keep b8 (Nat.le_refl _) HS2.out; have f8 := (b8.frozen (p := ⟨g, q * 2 + 1, none⟩) lg7).trans HS3.out)
      | (refine step_app1 rfl _ _ rfl eltArc w6.heap.size v5 _ _ rfl ho5 w6.heap.size #[.int .i64 0, .int .i64 0, .int .i64 0, .int .i64 q] ?_ rfl rfl ?_ ?_ ?_ ?_ ?_; (exact grown_new hg5); (simp [Value.oneCell']); omega; omega; (have := b7.size; omega); intro g3 cap w8 ho8 hg8 hat8 hlt8; have b8 : Below w6.heap.size w6 w8 := below_app b7 ho5 hg8 (Nat.le_refl _) b7.size; have m8 := (HC.out.mb.below b8 lg6).cell; have l8 := (HC.out.mb.below b8 lg6).lt; have c8 := cell_keep b8 (Nat.le_refl _) HS2.out; have f8 := (b8.frozen (p := ⟨g, q * 2 + 1, none⟩) lg7).trans HS3.out))
    all_goals
      have oa : OwnArcs w8 w.heap.size (.slice (some ⟨g3, 0, none⟩) (m.states[q].arcs.length + 1) cap) (m.states[q].arcs ++ [⟨0, 0, 0, q⟩]) := by
        unfold OwnArcs
        rw [arcsCells_snoc, List.length_append]
        exact own_mono (by simpa [arcCells] using ho8) b06
      go_wp2_with fail
      go_meet
      case rel => exact HC.out.put b8 n1 n2 n3 n4 q hq oa
  case rest =>
    obtain ⟨w9, rfl⟩ : ∃ wx : World, wx = wc := ⟨_, rfl⟩
    have H9 := Lib.hid hcut
    have e0 := set_empty m.states q hq (m.states[q].arcs ++ [⟨0, 0, 0, q⟩]) (by simp [fullA])
    have e1 : (bitsOf (putArcs m q hq (m.states[q].arcs ++ [⟨0, 0, 0, q⟩])).states).full = false := e0.1
    have e2 : (bitsOf (putArcs m q hq (m.states[q].arcs ++ [⟨0, 0, 0, q⟩])).states).cert = false := e0.2
    have e3 : ((putArcs m q hq (m.states[q].arcs ++ [⟨0, 0, 0, q⟩])).states.length : Int) = m.states.length := by simp [putArcs]
    have e4 : ((arcsOf (putArcs m q hq (m.states[q].arcs ++ [⟨0, 0, 0, q⟩])).states : Nat) : Int) = (arcsOf m.states : Int) + 1 := by
      have := arcsOf_set m.states q hq ⟨0, 0, 0, q⟩
      show ((arcsOf (m.states.set q _) : Nat) : Int) = _
      rw [this]; simp
    have E1 := Lib.hid e1; have E2 := Lib.hid e2; have E3 := Lib.hid e3; have E4 := Lib.hid e4
    have k1 := hcut.mb.cell
    clear hcut e0 e1 e2 e3 e4 HC HRD HS2 HS3 s1
    obtain ⟨vs9, o9⟩ := H9.out.own
    have O9 := Lib.hid o9
    clear o9
    go_wp2_with fail
    refine (Bits_any _ (putArcs m q hq (m.states[q].arcs ++ [⟨0, 0, 0, q⟩])) _ (own_mach O9.out) h1.out).mono ?_; rintro e w10 ⟨rfl, r10⟩
    rw [E1.out, E2.out]
    generalize (bitsOf (putArcs m q hq (m.states[q].arcs ++ [⟨0, 0, 0, q⟩])).states).acc = xa
    generalize (bitsOf (putArcs m q hq (m.states[q].arcs ++ [⟨0, 0, 0, q⟩])).states).sorted = xs
    generalize (bitsOf (putArcs m q hq (m.states[q].arcs ++ [⟨0, 0, 0, q⟩])).states).plain = xp
    have H10 := Lib.hid ((H9.out.step r10).step ((Below.refl _ _).alloc (Nat.le_refl _) (.cells #[.bool xa, .bool false, .bool false, .bool xs, .bool xp] 56)))
    have Y10 : Hid (Blk (w10.alloc (.cells #[.bool xa, .bool false, .bool false, .bool xs, .bool xp] 56)) w10.heap.size #[.bool xa, .bool false, .bool false, .bool xs, .bool xp] 56) := Lib.hid (Blk.new _ _ _)
    have k2 := (H9.out.step r10).mb.cell; have l10 := (H9.out.step r10).mb.lt
    obtain ⟨vs10, o10⟩ := H10.out.own
    have O10 := Lib.hid o10
    clear o10 r10 k1
    go_wp2_with fail
    refine (Count_any _ (putArcs m q hq (m.states[q].arcs ++ [⟨0, 0, 0, q⟩])) _ (own_mach O10.out) h1.out).mono ?_; rintro e w11 ⟨rfl, r11⟩
    rw [E3.out, E4.out]
    generalize ((finals (putArcs m q hq (m.states[q].arcs ++ [⟨0, 0, 0, q⟩])).states : Nat) : Int) = xf
    have H11 := Lib.hid (H10.out.step r11)
    have Y11 := Lib.hid (Y10.out.step r11)
    have k3 := H11.out.mb.cell; have k4 := H11.out.ab.cell; have k5 := H11.out.cb.cell; have k6 := Y11.out.cell
    have l1 := H11.out.mb.lt; have l2' := H11.out.ab.lt; have l3' := H11.out.cb.lt; have l4' := Y11.out.lt
    have harc' : (arcsOf m.states : Int) ≤ 24 := by omega
    clear r11 k2
    by_cases hl0 : m.states[q].arcs.length = 0
    · have hl0' : ((m.states[q].arcs.length : Int) == 0) = true := by simp [hl0]
      clear hl0
      go_wp2_with fail
      go_ret
      exact ⟨rfl, H11.out.bel.alloc H11.out.bel.size _⟩
    · have hl0' : ((m.states[q].arcs.length : Int) == 0) = false := by rw [beq_eq_false_iff_ne]; omega
      have hl1 : 0 < m.states[q].arcs.length := by omega
      have hva : ValidArc m.states.length m.states[q].arcs[0] := (HV.out.st _ (List.getElem_mem hq)).2 _ (List.getElem_mem hl1)
      have h2 : Hid (Valid (putArcs m q hq (m.states[q].arcs ++ [m.states[q].arcs[0]]))) := Lib.hid (valid_set HV.out harc q hq _ hva)
      have e1 : (bitsOf (putArcs m q hq (m.states[q].arcs ++ [m.states[q].arcs[0]])).states).full = true := (set_full m.states q hq _ (all_snoc_mem _ _ _ (List.getElem_mem hl1))).trans hful
      have e2 : (bitsOf (putArcs m q hq (m.states[q].arcs ++ [m.states[q].arcs[0]])).states).cert = false := set_twin m.states q hq _ (twin_nodup _ _ (List.getElem_mem hl1))
      have e3 : (bitsOf (putArcs m q hq (m.states[q].arcs ++ [m.states[q].arcs[0]])).states).acc = (bitsOf m.states).acc := set_acc m.states q hq _ (all_snoc_mem _ _ _ (List.getElem_mem hl1))
      have e4 : (bitsOf (putArcs m q hq (m.states[q].arcs ++ [m.states[q].arcs[0]])).states).plain = (bitsOf m.states).plain := set_plain m.states q hq _ (all_snoc_mem _ _ _ (List.getElem_mem hl1))
      have D1 := Lib.hid e1; have D2 := Lib.hid e2; have D3 := Lib.hid e3; have D4 := Lib.hid e4
      clear e1 e2 e3 e4 hva
      go_upto_region 13 with fail
      have H12a : CT w (w11.alloc (.cells #[.int .i64 m.states.length, .int .i64 ((arcsOf m.states : Int) + 1), .int .i64 xf] 60)) m.start g m.states.length cg w1.heap.size w2.heap.size w3.heap.size (m.states.set q ⟨m.states[q].final, m.states[q].arcs ++ [⟨0, 0, 0, q⟩]⟩) ⟨(bitsOf m.states).acc, true, (bitsOf m.states).cert, (bitsOf m.states).sorted, (bitsOf m.states).plain⟩ m.states.length (arcsOf m.states) (finals m.states) A' c' m.states[q].arcs := H11.out.step ((Below.refl _ _).alloc (Nat.le_refl _) _)
      generalize w11.alloc (.cells #[.int .i64 m.states.length, .int .i64 ((arcsOf m.states : Int) + 1), .int .i64 xf] 60) = w12 at *
      have H12 := Lib.hid H12a
      obtain ⟨vs12, o12⟩ := H12a.own
      have n10 : q < vs12.length := by rw [o12.len]; simpa using hq
      have hss : q < (m.states.set q ⟨m.states[q].final, m.states[q].arcs ++ [⟨0, 0, 0, q⟩]⟩).length := by simpa using hq
      have hA4 : ∃ A4 c4, w12.cell? ⟨g, q * 2 + 1, none⟩ = some (.slice A4 (m.states[q].arcs.length + 1) c4) := by
        have hoq := o12.arcs q hss n10
        obtain ⟨A4, c4, hv4, -, -⟩ := hoq.form
        refine ⟨A4, c4, ?_⟩
        have hrow := o12.row
        rw [List.length_set] at hrow
        rw [hrow.cellAt (q * 2 + 1) (by omega)]
        have := flatMap_at stCells 2 (fun _ => rfl) (((m.states.set q ⟨m.states[q].final, m.states[q].arcs ++ [⟨0, 0, 0, q⟩]⟩).map (·.final)).zip vs12) q (by simp [o12.len]; exact hq) 1 (by omega)
        rw [statesCells, this]; simp [stCells]
        rw [hv4]; simp
      obtain ⟨A4, c4, s2⟩ := hA4
      have hrow := o12.row
      rw [List.length_set] at hrow
      have s3 : w12.frozen? ⟨g, q * 2 + 1, none⟩ = false := hrow.frozenAt _
      have HR2 := Lib.hid (Rd.of_own H12a.ar)
      have hat := (OwnArcs.at_ H12a.ar).2
      have rdA' : Rdy A' m.states[q].arcs.length := hat.rdy
      have z0 := hat.c0 0 hl1; have z1 := hat.c1 0 hl1; have z2 := hat.c2 0 hl1; have z3 := hat.c3 0 hl1
      simp only [Nat.zero_mul, Nat.add_zero] at z0 z1 z2 z3
      generalize m.states[q].arcs[0] = a0 at *
      have HZ0 := Lib.hid z0; have HZ1 := Lib.hid z1; have HZ2 := Lib.hid z2; have HZ3 := Lib.hid z3
      have lA' := World.block_lt_of_cell? _ _ z0
      have s1 := H12a.mb.cell
      have lg12 := H12a.mb.lt
      have lg13 : g < w12.heap.size := World.block_lt_of_cell? _ _ s2
      have HS4 := Lib.hid s2; have HS5 := Lib.hid s3
      have b012 := H12a.bel.size
      have i3 : (0 : Int) < ↑m.states[q].arcs.length := by omega
      clear H12a hat o12 hrow s2 s3 k3 k4 k5 k6 l1 l2' l3' l4'
      go_cut [] (fun wx => CT w wx m.start g m.states.length cg w1.heap.size w2.heap.size w3.heap.size (m.states.set q ⟨m.states[q].final, m.states[q].arcs ++ [a0]⟩) ⟨(bitsOf m.states).acc, true, (bitsOf m.states).cert, (bitsOf m.states).sorted, (bitsOf m.states).plain⟩ m.states.length (arcsOf m.states) (finals m.states) A' c' m.states[q].arcs)
      case first =>
        go_region_law (first
          | (refine step_of rfl (wp_appR _ _ _ rfl eltArc w12.heap.size (.slice none 0 0) 0 [] rfl (World.ownsRow_nil _ _ _ _) A' m.states[q].arcs.length c' (arcsCells m.states[q].arcs) rfl (by first | exact HR2.out.below ((Below.refl _ _).drew) rfl | exact HR2.out.below (((Below.refl _ _).alloc (Nat.le_refl _) _).drew) rfl) (arcs_one _) (by omega) (by omega) (by simp) ?_); intro v5 w7 ho5 hg5 hat5; have b7 : Below w12.heap.size w12 w7 := (by first | exact below_nil ((Below.refl _ _).drew) hg5 (Nat.le_refl _) | exact below_nil (((Below.refl _ _).alloc (Nat.le_refl _) _).drew) hg5 (by simp)); have m7 := (H12.out.mb.below b7 lg12).cell; have l7 := (H12.out.mb.below b7 lg12).lt; have z0 := cell_keep b7 (Nat.le_refl _) HZ0.out; have z1 := cell_keep b7 (Nat.le_refl _) HZ1.out; have z2 := cell_keep b7 (Nat.le_refl _) HZ2.out; have z3 := cell_keep b7 (Nat.le_refl _) HZ3.out; have lz := World.block_lt_of_cell? _ _ z0)
          | (refine step_app1 rfl _ _ rfl eltArc w12.heap.size v5 _ _ rfl (ho5.alloc _) w7.heap.size #[.int .i64 a0.inn, .int .i64 a0.out, .int .i64 a0.wt, .int .i64 a0.to] ?_ rfl rfl ?_ ?_ ?_ ?_ ?_; (exact heap_alloc_new w7 _); (simp [Value.oneCell']); omega; omega; (have := b7.size; simp; omega); intro g3 cap w8 ho8 hg8 hat8 hlt8; have b8 : Below w12.heap.size w12 w8 := below_app (b7.alloc b7.size _) (ho5.alloc _) hg8 (Nat.le_refl _) (by have := b7.size; simp; omega); have m8 := (H12.out.mb.below b8 lg12).cell; have l8 := (H12.out.mb.below b8 lg12).lt; have c8 := cell_keep b8 (Nat.le_refl _) HS4.out; have f8 := (b8.frozen (p := ⟨g, q * 2 + 1, none⟩) lg13).trans HS5.out)
          | (refine step_app1 rfl _ _ rfl eltArc w12.heap.size v5 _ _ rfl ho5 w12.heap.size #[.int .i64 a0.inn, .int .i64 a0.out, .int .i64 a0.wt, .int .i64 a0.to] ?_ rfl rfl ?_ ?_ ?_ ?_ ?_; (exact grown_new hg5); (simp [Value.oneCell']); omega; omega; (have := b7.size; omega); intro g3 cap w8 ho8 hg8 hat8 hlt8; have b8 : Below w12.heap.size w12 w8 := below_app b7 ho5 hg8 (Nat.le_refl _) b7.size; have m8 := (H12.out.mb.below b8 lg12).cell; have l8 := (H12.out.mb.below b8 lg12).lt; have c8 := cell_keep b8 (Nat.le_refl _) HS4.out; have f8 := (b8.frozen (p := ⟨g, q * 2 + 1, none⟩) lg13).trans HS5.out))
        all_goals
          have oa : OwnArcs w8 w.heap.size (.slice (some ⟨g3, 0, none⟩) (m.states[q].arcs.length + 1) cap) (m.states[q].arcs ++ [a0]) := by
            unfold OwnArcs
            rw [arcsCells_snoc, List.length_append]
            exact own_mono (by simpa [arcCells] using ho8) b012
          go_wp2_with fail
          go_meet
          case rel =>
            have hp := H12.out.put b8 n1 n2 n3 n4 q hss oa
            simpa only [List.set_set, List.getElem_set_self] using hp
      case rest =>
        obtain ⟨w13, rfl⟩ : ∃ wx : World, wx = wc := ⟨_, rfl⟩
        have H13 := Lib.hid hcut
        have k1 := hcut.mb.cell
        obtain ⟨vs13, o13⟩ := hcut.own
        have O13 : Hid (OwnStV w13 w.heap.size (.slice (some ⟨g, 0, none⟩) m.states.length cg) vs13 (putArcs m q hq (m.states[q].arcs ++ [a0])).states) := Lib.hid o13
        clear hcut o13 H12 HR2 HS4 HS5 HZ0 HZ1 HZ2 HZ3 s1 HQ
        go_wp2_with fail
        refine (Bits_any _ (putArcs m q hq (m.states[q].arcs ++ [a0])) _ (own_mach O13.out) h2.out).mono ?_; rintro e w14 ⟨rfl, r14⟩
        rw [D1.out, D2.out, D3.out, D4.out]
        generalize (bitsOf (putArcs m q hq (m.states[q].arcs ++ [a0])).states).sorted = xs2
        have H14 := Lib.hid (H13.out.step r14)
        have k2 := H14.out.ab.cell; have l2 := H14.out.ab.lt
        clear k1 r14
        generalize (bitsOf m.states).acc = b1 at *
        generalize (bitsOf m.states).plain = b4 at *
        go_wp2_with fail
        go_ret
        exact ⟨rfl, H14.out.bel.alloc H14.out.bel.size _⟩
end coreTells
end Go.Proofs.Ytgepgokaodcpcaa
