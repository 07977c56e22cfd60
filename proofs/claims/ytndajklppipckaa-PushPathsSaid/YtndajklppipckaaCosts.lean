/- best.Costs. -/
import Derived.Test.YtndajklppipckaaCostsPlain
import Derived.Test.YtndajklppipckaaEnds
import Derived.Test.YtndajklppipckaaMBox
import Derived.StillTailTactics
import Derived.Deep.LoopGhost
import Derived.Deep.DeepCutAuto
import Derived.Deep.CutBlock
import Derived.LoopTactic
import Derived.Carry
import Derived.IntWalk
namespace Go.Proofs.Ytndajklppipckaa
open Go.RowKit

/-- what the walk needs of the beginnings of a machine -/
structure BegsOf (m : MachL) (s : Nat) (d : Nat → Int) (b : Begs) : Prop where
  lt : ∀ p, b.V p → b.q p < m.states.length
  arc : ∀ p, b.V p → ∀ k a, (arcsAt m (b.q p))[k]? = some a → b.q (k :: p) = a.to.toNat ∧ b.c (k :: p) = b.c p + a.wt ∧ (b.V (k :: p) ↔ d a.to.toNat ≠ 1000000001)
  non : ∀ p, b.V p → ∀ k, (arcsAt m (b.q p))[k]? = none → ¬ b.V (k :: p)
  q0 : b.q [] = s
  c0 : b.c [] = 0
  v0 : b.V [] ↔ d s ≠ 1000000001
  ends : ∀ q, b.E q ↔ finI m q ≠ 1000000001
  fin : ∀ q, b.fin q = finI m q
  dd : ∀ q, b.d q = d q
  low : ∀ q, ∀ a ∈ arcsAt m q, d a.to.toNat ≠ 1000000001 → d q ≤ a.wt + d a.to.toNat
  cheap : ∀ n ps, Cheap (fun p => b.V p ∧ b.E (b.q p)) b.cost n ps → Cheap (Whole m s) (wcost m s) n ps
  cost : b.cost = wcost m s
theorem begs_of {m : MachL} {s : Nat} {d : Nat → Int} (hv : Valid m) (hs : s < m.states.length) (h : DFar m d) : BegsOf m s d (begs m s d h) :=
  ⟨begs_lt hv hs h, fun _ hV _ _ ha => begs_arc h hV ha, fun _ hV _ ha => begs_none h hV ha, rfl, rfl, (begs_nil h).2.2, fun _ => Iff.rfl, fun _ => rfl, fun _ => rfl, fun q a ha hd => (h.arc q a ha hd).2,
    fun _ _ hc => Cheap.congr (W' := Whole m s) hc (begs_whole h), rfl⟩
theorem own_same {w w' : World} {base : Nat} {e : TypeId} {size n : Nat} {v : Value} {xs : List Value} (h : w.ownsRow base e size v n xs) (hk : ∀ k, k < w.heap.size → v.ownBlock = some k → w'.heap[k]? = w.heap[k]?) : w'.ownsRow base e size v n xs := by
  refine ⟨h.1, ?_⟩
  rcases h.2 with hn | ⟨g, cap, cur, rfl, hbg, hg, r⟩
  · exact .inl hn
  · have hlt : g < w.heap.size := (Array.getElem?_eq_some_iff.1 hg).1
    exact .inr ⟨g, cap, cur, rfl, hbg, by rw [hk g hlt rfl]; exact hg, r⟩
abbrev nints (l : List Nat) : List Int := l.map (fun x : Nat => (x : Int))
/-- Costs' memory -/
structure CostS (w : World) (st : Int) (A : Option Addr) (n c db : Nat) (dl : List Int) (B sb : Nat) (W : World) (seen : List Nat) (l : List WayL) (r : Option Nat) (ov : Value) (out : List Int) : Prop where
  mb : Blk W w.heap.size #[.int .i64 st, .slice A n c] 31
  dk : Blk W db (icellsA dl) 3
  hp : YHeap B B r W l
  sk : Blk W sb (icellsA (nints seen)) 3
  ok : W.ownsRow B 3 1 ov out.length (icells out)
  on : ov.ownBlock ≠ some sb
  d1 : w.heap.size < db
  d2 : db < B
  d3 : B < sb
  bel : Below w.heap.size w W
section
variable {w W W' : World} {st : Int} {A : Option Addr} {n c db : Nat} {dl : List Int} {B sb : Nat} {seen : List Nat} {l : List WayL} {r : Option Nat} {ov : Value} {out : List Int}
theorem CostS.keep (h : CostS w st A n c db dl B sb W seen l r ov out) (hb : Below W.heap.size W W') : CostS w st A n c db dl B sb W' seen l r ov out :=
  ⟨h.mb.step hb, h.dk.step hb, h.hp.keep hb, h.sk.step hb, own_below h.ok hb (Nat.le_refl _), h.on, h.d1, h.d2, h.d3, h.bel.trans (hb.mono h.bel.size)⟩
theorem CostS.rne (h : CostS w st A n c db dl B sb W seen l r ov out) : r ≠ some sb := by
  obtain ⟨A1, c1, k1, k2, k3⟩ := h.hp.q
  rw [← k3]
  exact row_ne_blk k2 h.sk (by decide)
theorem CostS.heap (h : CostS w st A n c db dl B sb W seen l r ov out) {l' : List WayL} {r' : Option Nat} (hp : YHeap B B r' W' l') (hf : YFar B r W W') : CostS w st A n c db dl B sb W' seen l' r' ov out := by
  have hr := h.hp.row
  have h1 := h.d1; have h2 := h.d2; have h3 := h.d3
  obtain ⟨A1, c1, k1, k2, k3⟩ := h.hp.q
  refine ⟨hf.blk h.mb (by omega) (fun e => by have := (hr _ e).1; omega), hf.blk h.dk (by omega) (fun e => by have := (hr _ e).1; omega), hp, hf.blk h.sk (by omega) h.rne, own_same h.ok (fun k hk e => hf.block k hk ?_ ?_), h.on, h1, h2, h3, h.bel.trans (hf.below (by omega) (fun k e => by have := (hr k e).1; omega) h.bel.size)⟩
  · rintro rfl
    exact row_ne_blk h.ok k1 (by decide) e
  · intro e2
    rcases own_ne h.ok k2 (by decide) with e3 | e3
    · rw [e] at e3; cases e3
    · exact e3 (by rw [e, k3, e2])
theorem setCell_grown (W : World) (b o : Nat) (u : Value) : W.grownBy (W.setCell ⟨b, o, none⟩ u) (some b) :=
  ⟨rfl, rfl, rfl, by simp [World.setCell], fun k _ hne => Below.heap_setCell _ _ _ _ (fun e => hne (by rw [e]))⟩
theorem CostS.see (h : CostS w st A n c db dl B sb W seen l r ov out) (q x : Nat) : CostS w st A n c db dl B sb (W.setCell ⟨sb, q, none⟩ (.int .i64 x)) (seen.set q x) l r ov out := by
  have h1 := h.d1; have h2 := h.d2; have h3 := h.d3
  refine ⟨h.mb.far (by simp; omega) _, h.dk.far (by simp; omega) _, h.hp.far (setCell_grown _ _ _ _) (by simp; omega) (.inr h.rne), ?_, own_setCell h.ok h.on _, h.on, h1, h2, h3, h.bel.setCell (by simp; omega) _⟩
  have := h.sk.put q (.int .i64 x)
  rw [icellsA_set] at this
  unfold nints
  rw [List.map_set]; exact this
theorem CostS.app1 (h : CostS w st A n c db dl B sb W seen l r ov out) (hg : W.grownBy W' ov.ownBlock) (i : Int) {g cap : Nat} (ho : W'.ownsRow B 3 1 (.slice (some ⟨g, 0, none⟩) (out.length + 1) cap) (out.length + 1) (icells out ++ (#[.int .i64 i] : Array Value).toList)) (hat : ov.ownBlock = some g ∨ W.heap.size ≤ g) :
    CostS w st A n c db dl B sb W' seen l r (.slice (some ⟨g, 0, none⟩) (out.length + 1) cap) (out ++ [i]) := by
  have h1 := h.d1; have h2 := h.d2; have h3 := h.d3
  obtain ⟨A1, c1, k1, k2, k3⟩ := h.hp.q
  have hs := h.sk.lt
  refine ⟨h.mb.grown hg (fun e => own_base h.ok (by omega) e.symm), h.dk.grown hg (fun e => own_base h.ok (by omega) e.symm), h.hp.far hg (fun e => row_ne_blk h.ok k1 (by decide) e) ?_, h.sk.grown hg (fun e => h.on e.symm), ?_, ?_, h1, h2, h3, below_app h.bel h.ok hg (by omega) h.hp.hb⟩
  · rcases own_ne k2 h.ok (by decide) with e | e
    · left; rw [← k3]; exact e
    · right; rw [← k3]; exact e
  · have e : icells (out ++ [i]) = icells out ++ [.int .i64 i] := by simp [icells]
    rw [e, List.length_append]
    exact ho
  · intro e
    simp [Value.ownBlock] at e
    subst e
    rcases hat with e | e
    · exact h.on e
    · omega
end

/-- what Costs answers -/
def CostsR (m : MachL) (n base : Nat) (w' : World) (ov : Value) : Prop := ∃ ps, Cheap (Whole m m.start.toNat) (wcost m m.start.toNat) n ps ∧ w'.ownsRow base 3 1 ov ps.length (icells (ps.map (wcost m m.start.toNat)))
theorem rep_getD (n q : Nat) : (List.replicate n 0).getD q 0 = 0 := by rw [List.getD_eq_getElem?_getD, List.getElem?_replicate]; split <;> rfl
theorem nints_get (l : List Nat) (q : Nat) (h : q < l.length) : (icellsA (nints l))[q]? = some (.int .i64 ((l.getD q 0 : Nat) : Int)) := by
  rw [icellsA_get _ _ (by simpa using h)]
  simp [nints, List.getD_eq_getElem?_getD, h]
theorem YHeap.rne {b base k : Nat} {r : Option Nat} {W : World} {l : List WayL} {cs : Array Value} {t : TypeId} (h : YHeap base b r W l) (hB : Blk W k cs t) (hne : 139 ≠ t) : r ≠ some k := by
  obtain ⟨A1, c1, k1, k2, k3⟩ := h.q
  rw [← k3]
  exact row_ne_blk k2 hB hne

set_option maxRecDepth 100000 in
set_option maxHeartbeats 8000000 in
theorem Costs_any (v : Value) (m : MachL) (n : Nat) (WW F : Int) (AA : Nat) (w : World) (hm : MachAt w v m) (hv : Valid m) (hs : ∀ q c, Way (endsFirst m) (endsE m) q c → ∃ c', Way (endsFirst m) (endsE m) q c' ∧ c' ≤ 1000000000) (h0 : 0 ≤ m.start)
    (hn : n ≤ 20) (hW0 : 0 ≤ WW) (hF0 : 0 ≤ F) (hW : ∀ s ∈ m.states, ∀ a ∈ s.arcs, a.wt ≤ WW) (hF : ∀ s ∈ m.states, s.final ≠ 1000000001 → s.final ≤ F) (hA : ∀ s ∈ m.states, s.arcs.length ≤ AA)
    (hb : n * m.states.length * (AA + 1) + 1 ≤ 100000) (hc : ((n * m.states.length : Nat) : Int) * WW + F ≤ 1000000000) :
    Calls Try.prog 28 #[v, .int .i64 n] w fun e w' => ∃ ov, e = .returned (.tuple #[ov, .int .i64 0]) ∧ CostsR m n w.heap.size w' ov ∧ Below w.heap.size w w' := by
  have CH := Lib.hid (fun W (hb : Below w.heap.size w W) => Check_ok v m W (hm.below hb) hv)
  have EN := Lib.hid (fun W (hb : Below w.heap.size w W) => Ends_any v m W (hm.below hb) hv hs)
  obtain ⟨A, c, rfl, hS⟩ := hm
  have hs1 := hv.s1; have hsz := hv.size
  obtain ⟨sn, hsn⟩ : ∃ sn : Nat, m.start = sn := ⟨m.start.toNat, by omega⟩
  have hsn2 : m.start.toNat = sn := by omega
  have hsl : sn < m.states.length := by omega
  rw [hsn] at CH EN ⊢
  have HS := Lib.hid hS; have HV := Lib.hid hv; have HW := Lib.hid hW; have HF := Lib.hid hF; have HA := Lib.hid hA
  have rd := hS.rdy
  have HSN := Lib.hid hsn
  clear hS hv hs hsn hsn2 h0 hs1 hW hF hA
  have n0 : ¬ (↑n : Int) < 0 := by omega
  have n1 : ¬ 20 < (↑n : Int) := by omega
  have q0 : (0 : Int) ≤ ↑sn := by omega
  have q1 : (↑sn : Int) < ↑m.states.length := by omega
  go_enter Try.func28, Try.ntmps28
  go_wp2_with fail
  refine (CH.out _ (by repeat' (first | exact Below.refl _ _ | assumption | refine Below.drew ?_ | refine Below.alloc ?_ (by first | omega | (simp; done) | (simp; omega)) _ | refine Below.setCell ?_ (by first | omega | (simp; done) | (simp; omega)) _))).mono ?_
  rintro e w1 ⟨rfl, r1⟩
  have M1 : Hid (Blk w1 w.heap.size #[.int .i64 sn, .slice A m.states.length c] 31) := Lib.hid (Blk.step (Blk.new' (by simp)) r1)
  have b1 : Below w.heap.size w w1 := ((Below.refl _ _).alloc (Nat.le_refl _) _).trans (r1.mono (by simp))
  have k1 := M1.out.cell; have l1 := M1.out.lt
  clear r1 CH
  go_wp2_with fail
  refine (EN.out _ b1).mono ?_
  rintro e w2 ⟨sv, rfl, ⟨⟨db, dl, rfl, hD, hdb, hdl, hdd⟩⟩, r2⟩
  have M2 := Lib.hid (M1.out.step r2)
  have b2 := b1.trans (r2.mono b1.size)
  have HD := Lib.hid hD; have HDD := Lib.hid hdd; have HDL := Lib.hid hdl
  have hDB : w.heap.size < db := by omega
  have hdl2 := hD.lt
  have kd := hD.cell sn
  rw [icellsA_get _ _ (by rw [hdl]; exact hsl)] at kd
  have k2 := M2.out.cell; have l2 := M2.out.lt
  have HDF := Lib.hid (dfar_of HV.out hdd)
  have HDB : Hid (∀ q, q < m.states.length → 0 ≤ dl.getD q 0 ∧ dl.getD q 0 ≤ 1000000001) := Lib.hid (fun q hq => by
    rcases hdd q hq with ⟨h1, -⟩ | ⟨h1, h2, -⟩ <;> omega)
  clear k1 l1 M1 r2 EN b1 hD hdd hdl
  obtain ⟨b, hb0⟩ : ∃ b : Begs, b = begs m sn _ HDF.out := ⟨_, rfl⟩
  have HB : Hid (BegsOf m sn (fun q => dl.getD q 0) b) := Lib.hid (by rw [hb0]; exact begs_of HV.out hsl HDF.out)
  clear hb0 HDF
  have HV0 : Hid (b.V [] ↔ dl.getD sn 0 ≠ 1000000001) := Lib.hid HB.out.v0
  have HD0 : Hid (b.d (b.q []) = dl.getD sn 0) := Lib.hid (by rw [HB.out.q0, HB.out.dd])
  generalize dl.getD sn 0 = dx at kd HV0 HD0
  go_upto_if 46 with fail
  go_cut [] (fun wx => (∃ l r, YHeap w2.heap.size w2.heap.size r wx l ∧ ((b.V [] ∧ l = [⟨sn, 0, dx⟩]) ∨ (¬ b.V [] ∧ l = []))) ∧ Below w2.heap.size w2 wx)
  case first =>
    have BB : Blk (w2.alloc (.cells #[.slice none 0 0] 137)) w2.heap.size #[.slice none 0 0] 137 := Blk.new _ _ _
    by_cases hx : dx = 1000000001
    · have e1 : (dx == 1000000001) = true := by simpa using hx
      have HVN : Hid (¬ b.V []) := Lib.hid (fun h => HV0.out.1 h hx)
      clear hx
      go_wp2_with fail
      go_meet
      case rel => exact ⟨⟨[], none, ⟨⟨none, 0, BB, World.ownsRow_nil _ _ _ _, rfl⟩, fun k h1 h2 => absurd h1 (by simp), by simp⟩, .inr ⟨HVN.out, rfl⟩⟩, (by repeat' (first | exact Below.refl _ _ | assumption | refine Below.drew ?_ | refine Below.alloc ?_ (by first | omega | (simp; done) | (simp; omega)) _ | refine Below.setCell ?_ (by first | omega | (simp; done) | (simp; omega)) _))⟩
    · have e1 : (dx == 1000000001) = false := by simpa using hx
      have HVY : Hid (b.V []) := Lib.hid (HV0.out.2 hx)
      clear hx
      go_upto_region 12 with fail
      have b3 : Below w2.heap.size w2 (w2.alloc (.cells #[.slice none 0 0] 137)) := (by repeat' (first | exact Below.refl _ _ | assumption | refine Below.drew ?_ | refine Below.alloc ?_ (by first | omega | (simp; done) | (simp; omega)) _ | refine Below.setCell ?_ (by first | omega | (simp; done) | (simp; omega)) _))
      have k3 := (M2.out.step b3).cell; have l3 := (M2.out.step b3).lt
      have kd3 := cell_keep b3 (Nat.le_refl _) kd
      have ld3 := (HD.out.step b3).lt
      have hsz3 : (w2.alloc (.cells #[.slice none 0 0] 137)).heap.size = w2.heap.size + 1 := by simp
      clear k2 l2 kd
      generalize hw3 : w2.alloc (.cells #[.slice none 0 0] 137) = w3 at *
      have HW3 := Lib.hid hw3; clear hw3
      generalize w2.heap.size = B at *
      have kb := BB.cell; have fb := BB.froz; have lb := BB.lt
      go_still_tail 8, (by kernel_rfl)
      change wpList _ _ _ _ _ w3.drew
      replace BB := BB.drew
      have bz : Below B w2 w3.drew := b3.drew
      have hz : w3.drew.heap.size = B + 1 := hsz3
      clear kb fb lb k3 l3 kd3 ld3 b3 hsz3 HW3
      generalize w3.drew = wz at *
      have kb := BB.cell; have fb := BB.froz; have lb := BB.lt
      go_wp2_with fail
      go_meet
      case rel =>
        have BB2 := BB.put 0 (.slice (some ⟨B + 1, 0, none⟩) 1 1)
        have bz2 : Below B w2 (wz.setCell ⟨B, 0, none⟩ (.slice (some ⟨B + 1, 0, none⟩) 1 1)) := bz.setCell (Nat.le_refl B) _
        have hz2 : (wz.setCell ⟨B, 0, none⟩ (.slice (some ⟨B + 1, 0, none⟩) 1 1)).heap.size = B + 1 := by simp [World.setCell]; omega
        clear kb fb lb bz
        generalize wz.setCell ⟨B, 0, none⟩ (.slice (some ⟨B + 1, 0, none⟩) 1 1) = wy at *
        have o1 := World.ownsRow_lit (base := B) (e := 139) (size := 3) wy #[.int .i64 sn, .int .i64 0, .int .i64 dx] 1 (by omega) (by simp [maxLen]) rfl
        rw [hz2] at o1
        exact ⟨⟨[⟨sn, 0, dx⟩], some (B + 1), ⟨⟨some ⟨B + 1, 0, none⟩, 1, (BB2.alloc _).eq (by simp), by simpa [wayCells] using o1, rfl⟩, fun k h1 h2 => absurd h1 (by simp; omega), by simp; omega⟩, .inl ⟨HVY.out, rfl⟩⟩, bz2.alloc (by omega) _⟩
  case rest =>
    obtain ⟨⟨l, r, HY, hl⟩, b3⟩ := hcut
    obtain ⟨w3, rfl⟩ : ∃ wx : World, wx = wc := ⟨_, rfl⟩
    have M3 := Lib.hid (M2.out.step b3)
    have HD3 := Lib.hid (HD.out.step b3)
    have k3 := M3.out.cell; have l3 := M3.out.lt
    have HYH := Lib.hid HY; have HL := Lib.hid hl
    have hBlt := HY.hb
    have hBw := HY.q
    obtain ⟨A9, c9, hBk, -, -⟩ := hBw
    have hBl := hBk.lt
    clear HY hl HD M2 k2 l2 hBk kd
    have b23 := b2.trans (b3.mono b2.size)
    have hB0 := b2.size
    generalize w2.heap.size = B at *
    clear b3 b2
    have hmk := run_make_elt eltInt w3 m.states.length (by omega) (by omega) (by omega)
    simp only [Value.cells, Nat.mul_one, madeInts] at hmk
    have C0 : CostS w sn A m.states.length c db dl B w3.heap.size (w3.alloc (.cells (icellsA (List.replicate m.states.length 0)) 3)) (List.replicate m.states.length 0) l r (.slice none 0 0) [] :=
      ⟨M3.out.alloc _, HD3.out.alloc _, HYH.out.keep (by repeat' (first | exact Below.refl _ _ | assumption | refine Below.drew ?_ | refine Below.alloc ?_ (by first | omega | (simp; done) | (simp; omega)) _ | refine Below.setCell ?_ (by first | omega | (simp; done) | (simp; omega)) _)), (Blk.new _ _ _).eq (by simp [nints]), World.ownsRow_nil _ _ _ _, by simp [Value.ownBlock], hDB, hdl2, hBl, b23.alloc b23.size _⟩
    have I0 : ∃ O v, CI b n WW (fun _ _ => False) O [] [] [] [] v (List.replicate m.states.length 0) ∧ l.Perm (O.map (ioW b) ++ ([] : List (List Nat)).map (ieW b)) ∧ l.length ≤ 1 := by
      rcases HL.out with ⟨h1, h2⟩ | ⟨h1, h2⟩
      · refine ⟨[[]], dx, CI.init (by simp) (.inl ⟨rfl, h1, HB.out.c0, HD0.out.symm⟩), ?_, by rw [h2]; simp⟩
        rw [h2]
        simp only [List.map_cons, List.map_nil, List.append_nil, ioW, HB.out.q0, HB.out.c0]
        have := HD0.out
        rw [HB.out.q0] at this
        rw [this, Int.zero_add]
      · exact ⟨[], 0, CI.init (by simp) (.inr ⟨rfl, h1⟩), by rw [h2]; simp, by rw [h2]; simp⟩
    obtain ⟨O0, v0, I0, P0, L0⟩ := I0
    have HC0 := Lib.hid C0; have HI0 := Lib.hid I0; have HP0 := Lib.hid P0
    clear C0 I0 P0 HL HYH M3 HD3 b23 hB0
    go_upto_region 14 with fail
    generalize w3.heap.size = sb at *
    generalize w3.alloc (.cells (icellsA (List.replicate m.states.length 0)) 3) = w4 at *
    clear k3 l3 hmk
    go_loopg [9] (n * m.states.length * (AA + 1) + 1) (fun g ov wx => ∃ (O EN ex Dr ps : List (List Nat)) (vv : Int) (seen : List Nat) (l : List WayL) (r : Option Nat), CI b n WW (fun _ _ => False) O EN ex Dr ps vv seen ∧ l.Perm (O.map (ioW b) ++ EN.map (ieW b)) ∧ CostS w sn A m.states.length c db dl B sb wx seen l r ov (ps.map b.cost) ∧ seen.length = m.states.length ∧
      (n * m.states.length - ex.length) * (AA + 1) + l.length ≤ g ∧ g ≤ n * m.states.length * (AA + 1) + 1 ∧ (∀ q, seen.getD q 0 + g ≤ n * m.states.length * (AA + 1) + 1))
    case atStart => exact ⟨O0, [], [], [], [], v0, _, l, r, HI0.out, HP0.out, HC0.out, by simp, by simp; omega, Nat.le_refl _, fun q => by rw [rep_getD]; omega⟩
    case round =>
      obtain ⟨O, EN, ex, Dr, ps, vv, seen, l, r, hI, hP, hC, hsl2, hg, hgN, hsg⟩ := hrel
      have HI := Lib.hid hI; have HP := Lib.hid hP
      have HG := Lib.hid hg; have HSG := Lib.hid hsg
      have hlen := hI.len
      have hll : l.length ≤ 100001 := by omega
      have hol : (ps.map b.cost).length = ps.length := by simp
      generalize hout : ps.map b.cost = out at *
      have HOUT := Lib.hid hout
      obtain ⟨oA, oc, rfl, -, -⟩ := own_form hC.ok
      have HC := Lib.hid hC
      obtain ⟨A', c', hB, hO, hr⟩ := hC.hp.q
      have kq := hB.cell; have lq := hB.lt
      have HOL := Lib.hid hol
      clear hI hP hg hB hO hr hsg hC hol hout
      have FIN : Hid (((O = [] ∧ EN = []) ∨ ps.length = n) → CostsR m n w.heap.size wr (.slice oA out.length oc)) := Lib.hid (fun he => by
        unfold CostsR
        rw [show m.start.toNat = sn by rw [HSN.out]; rfl]
        refine ⟨ps, HB.out.cheap n ps (HI.out.cheap he), ?_⟩
        rw [← HB.out.cost, HOUT.out, ← HOL.out]
        exact own_mono HC.out.ok (by have := HC.out.d1; have := HC.out.d2; omega))
      by_cases hfull : out.length < n
      · have hi : (out.length : Int) < n := by omega
        rcases l with _ | ⟨x0, l0⟩
        · have lz : (([] : List WayL).length) = 0 := rfl
          rw [lz] at kq
          have HE : Hid (O = [] ∧ EN = []) := Lib.hid (by
            have := HP.out.length_eq
            simp only [List.length_nil, List.length_append, List.length_map] at this
            exact ⟨List.eq_nil_of_length_eq_zero (by omega), List.eq_nil_of_length_eq_zero (by omega)⟩)
          go_wp2_with fail
          go_ret2
          exact ⟨_, rfl, FIN.out (.inl HE.out), HC.out.bel⟩
        · clear FIN
          have hlp : (x0 :: l0).length = l0.length + 1 := rfl
          rw [hlp] at kq
          go_wp2_with fail
          refine (ypop_any HC.out.hp (by omega) (by simp)).mono ?_
          rintro e w5 ⟨it, l', r', rfl, hp, hmin, hH, hfar, hrr⟩
          have HC5 := Lib.hid (HC.out.heap hH hfar)
          have HMIN := Lib.hid (popped_min hp hmin)
          have hlen' := hp.length_eq
          rw [hlp, List.length_cons] at hlen'
          have HPP := Lib.hid (popped HP.out hp)
          have r5lt := fun k e => (hH.row k e).2
          unfold wayI wayV
          clear hfar hrr hH hp hmin kq HC
          go_upto_region 16 with fail
          have X6 : Hid (Blk (w5.alloc (.cells #[.int .i64 it.at9, .int .i64 it.cost, .int .i64 it.least] 139)) w5.heap.size _ _) := Lib.hid (Blk.new _ _ _)
          have HC6 := Lib.hid (HC5.out.keep (W' := w5.alloc (.cells #[.int .i64 it.at9, .int .i64 it.cost, .int .i64 it.least] 139)) (by repeat' (first | exact Below.refl _ _ | assumption | refine Below.drew ?_ | refine Below.alloc ?_ (by first | omega | (simp; done) | (simp; omega)) _ | refine Below.setCell ?_ (by first | omega | (simp; done) | (simp; omega)) _)))
          have r6 : r' ≠ some w5.heap.size := fun e => by have := r5lt _ e; omega
          clear r5lt HC5
          generalize w5.alloc (.cells #[.int .i64 it.at9, .int .i64 it.cost, .int .i64 it.least] 139) = w6 at *
          generalize w5.heap.size = xb at *
          have k6 := X6.out.cell; have l6 := X6.out.lt
          rcases HPP.out with ⟨p, O', hO', rfl, hl'⟩ | ⟨p, EN', hE', rfl, hl'⟩
          · clear HPP
            have I6 := Lib.hid (HI.out.perm hO' (List.Perm.refl EN))
            have hla := least_all HP.out HMIN.out
            have hm1 : ∀ x ∈ O', b.c p + b.d (b.q p) ≤ b.c x + b.d (b.q x) := fun x hx => hla.1 x (hO'.mem_iff.2 (by simp [hx]))
            have hm2 : ∀ x ∈ EN, b.c p + b.d (b.q p) ≤ b.cost x := hla.2
            have HM := Lib.hid (And.intro hm1 hm2)
            have hVp := I6.out.vO p (by simp)
            have hqp := HB.out.lt p hVp
            have hcb := I6.out.cb p (by simp)
            have HVP := Lib.hid hVp; have HPL := Lib.hid hl'
            have hql2 : b.q p < seen.length := by omega
            have hsx := HSG.out (b.q p)
            have ks6 := HC6.out.sk.cell (b.q p)
            rw [nints_get _ _ hql2] at ks6
            have fs6 := HC6.out.sk.froz (b.q p); have ls6 := HC6.out.sk.lt
            have HX6 := X6
            unfold ioW at k6 X6
            simp only at k6 X6
            have hexl : ex.length ≤ n * m.states.length := by rw [← hsl2]; exact I6.out.exlen (fun x hx => by rw [hsl2]; exact HB.out.lt x hx)
            have hNW : ((ex.length : Nat) : Int) * WW ≤ ((n * m.states.length : Nat) : Int) * WW := Int.mul_le_mul_of_nonneg_right (by omega) hW0
            have IDROP : Hid (n ≤ seen.getD (b.q p) 0 → CI b n WW (fun _ _ => False) O' EN ex (p :: Dr) ps (b.c p + b.d (b.q p)) (seen.set (b.q p) (seen.getD (b.q p) 0 + 1))) := Lib.hid (fun h => I6.out.drop1 hql2 h hm1 hm2)
            have ILEAD : Hid (seen.getD (b.q p) 0 < n → ∀ EN', (b.E (b.q p) → EN' = p :: EN) → (¬ b.E (b.q p) → EN' = EN) → CI b n WW (fun x j => x = p ∧ 0 ≤ j) O' EN' (p :: ex) Dr ps (b.c p + b.d (b.q p)) (seen.set (b.q p) (seen.getD (b.q p) 0 + 1))) := Lib.hid (fun h EN' g1 g2 => I6.out.lead hql2 h hW0 hm1 hm2 g1 g2)
            have HEQ : Hid (b.E (b.q p) ↔ finI m (b.q p) ≠ 1000000001) := Lib.hid (HB.out.ends _)
            have HCO : Hid (b.cost p = b.c p + finI m (b.q p)) := Lib.hid (by unfold Begs.cost; rw [HB.out.fin])
            have hsq2 := finI_of hqp
            have HAT := Lib.hid (arcsAt_of hqp)
            rw [hsq2] at HEQ HCO
            have HLT := Lib.hid (seen.length_set (i := b.q p) (a := seen.getD (b.q p) 0 + 1))
            clear hm1 hm2 hla hVp hl' hO' HX6 hsq2
            have HCB : Hid (0 ≤ b.c p ∧ b.c p ≤ 1000000000) := Lib.hid (by omega)
            clear hNW hcb
            generalize hsv : seen.getD (b.q p) 0 = sv at *
            generalize hqq : b.q p = q at *
            generalize hcc : b.c p = cp at *
            generalize hdq : b.d q = dq at *
            have HSV := Lib.hid hsv; have HQQ := Lib.hid hqq; have HCC := Lib.hid hcc; have HDQ := Lib.hid hdq
            clear hsv hqq hcc hdq
            have c0 := HCB.out.1; have c1 := HCB.out.2
            have e1 : ¬ (↑q : Int) < 0 := by omega
            have e2 : (↑q : Int) < ↑m.states.length := by omega
            have e3 : (0 : Int) ≤ ↑q := by omega
            have hwr : IntKind.i64.wrap (↑sv + 1) = ↑sv + 1 := IntWalk.i64_in _ (by omega)
            go_upto_region 21 with fail
            have HC7 := Lib.hid (HC6.out.see q (sv + 1))
            rw [show ((sv + 1 : Nat) : Int) = (sv : Int) + 1 by omega] at HC7
            have X7 := Lib.hid (X6.out.far (a := ⟨sb, q, none⟩) (by have := HC6.out.sk; intro e; simp at e; subst e; unfold Blk at this; have h9 := X6.out; unfold Blk at h9; rw [this] at h9; simp at h9) (.int .i64 ((sv : Int) + 1)))
            have HSL : Hid ((seen.set q (sv + 1)).length = m.states.length) := Lib.hid (HLT.out.trans hsl2)
            have HSG2 : Hid (∀ g', g' < gk → ∀ q', (seen.set q (sv + 1)).getD q' 0 + g' ≤ n * m.states.length * (AA + 1) + 1) := Lib.hid (fun g' hlt q' => by
              rw [getD_set_nat _ _ _ _ hql2]
              have := HSG.out q'
              split <;> omega)
            have HSS : Hid ((seen.set q (sv + 1)).getD q 0 = sv + 1) := Lib.hid (by rw [getD_set_nat _ _ _ _ hql2, if_pos rfl])
            have hql3 : q < (seen.set q (sv + 1)).length := by rw [HSL.out]; exact hqp
            generalize seen.set q (sv + 1) = seen2 at *
            clear HC6 X6 k6 l6 ks6 fs6 ls6 HLT
            generalize w6.setCell ⟨sb, q, none⟩ (.int .i64 ((sv : Int) + 1)) = w7 at *
            have k7 := X7.out.cell; have l7 := X7.out.lt
            have ks7 := HC7.out.sk.cell q
            rw [nints_get _ _ hql3, HSS.out, show ((sv + 1 : Nat) : Int) = (sv : Int) + 1 by omega] at ks7
            have ls7 := HC7.out.sk.lt
            by_cases hdrop : n ≤ sv
            · have e4 : (n : Int) < (sv : Int) + 1 := by omega
              have I8 := Lib.hid (IDROP.out hdrop)
              have hlp2 := hlen'
              go_wp2_with fail
              go_roundg ((n * m.states.length - ex.length) * (AA + 1) + l'.length)
              case measure => have := HG.out; rw [hlp] at this; omega
              case rel => exact ⟨O', EN, ex, p :: Dr, ps, _, seen2, l', r', I8.out, HPL.out, by rw [HOUT.out]; exact HC7.out, HSL.out, Nat.le_refl _, by have := HG.out; rw [hlp] at this; omega, HSG2.out _ (by have := HG.out; rw [hlp] at this; omega)⟩
            · have e4 : ¬ (n : Int) < (sv : Int) + 1 := by omega
              have ILD := Lib.hid (ILEAD.out (by omega))
              have hS7 := HS.out.below HC7.out.bel (Nat.le_refl _)
              have d0 := hS7.c0 q hqp
              obtain ⟨AS, cS, d1', hAS⟩ := HS.out.c1 q hqp
              have d1 := cell_keep HC7.out.bel (Nat.le_refl _) d1'
              have HSM := Lib.hid (List.getElem_mem hqp)
              generalize m.states[q] = s at *
              have HAS := Lib.hid hAS
              have rdS := hAS.rdy
              have lA := World.block_lt_of_cell? _ _ d0
              have km := HC7.out.mb.cell; have lm := HC7.out.mb.lt
              have hvf := (HV.out.st s HSM.out).1
              unfold ValidFinal at hvf
              clear hS7 d1' hAS IDROP ILEAD
              go_upto_region 23 with fail
              have X8 := Lib.hid (X7.out.alloc (.cells #[.int .i64 s.final, .slice AS s.arcs.length cS] 71))
              have Y8 : Hid (Blk (w7.alloc (.cells #[.int .i64 s.final, .slice AS s.arcs.length cS] 71)) w7.heap.size _ _) := Lib.hid (Blk.new _ _ _)
              have HC8 := Lib.hid (HC7.out.keep (W' := w7.alloc (.cells #[.int .i64 s.final, .slice AS s.arcs.length cS] 71)) (by repeat' (first | exact Below.refl _ _ | assumption | refine Below.drew ?_ | refine Below.alloc ?_ (by first | omega | (simp; done) | (simp; omega)) _ | refine Below.setCell ?_ (by first | omega | (simp; done) | (simp; omega)) _)))
              have hxs : xb ≠ w7.heap.size := by omega
              clear HC7 X7 k7 l7 ks7 ls7 d0 d1 lA km lm
              generalize w7.alloc (.cells #[.int .i64 s.final, .slice AS s.arcs.length cS] 71) = w8 at *
              generalize w7.heap.size = ab at *
              have k8 := X8.out.cell; have l8 := X8.out.lt
              have m8 := Y8.out.cell; have n8 := Y8.out.lt
              go_upto_if 105 with fail
              go_cut [] (fun wx => ∃ (EN2 : List (List Nat)) (l2 : List WayL) (r2 : Option Nat), CI b n WW (fun x j => x = p ∧ 0 ≤ j) O' EN2 (p :: ex) Dr ps (cp + dq) seen2 ∧ l2.Perm (O'.map (ioW b) ++ EN2.map (ieW b)) ∧ CostS w sn A m.states.length c db dl B sb wx seen2 l2 r2 (.slice oA out.length oc) out ∧ l2.length ≤ l'.length + 1 ∧
                Blk wx xb #[.int .i64 q, .int .i64 cp, .int .i64 (cp + dq)] 139 ∧ Blk wx ab #[.int .i64 s.final, .slice AS s.arcs.length cS] 71 ∧ r2 ≠ some xb)
              case first =>
                by_cases hf : s.final = 1000000001
                · have e5 : (s.final == 1000000001) = true := by simpa using hf
                  have I8 := Lib.hid (ILD.out EN (fun h => absurd hf (HEQ.out.1 h)) (fun _ => rfl))
                  clear hf
                  go_wp2_with fail
                  go_meet
                  case rel => exact ⟨EN, l', r', I8.out, HPL.out, HC8.out, by omega, X8.out, Y8.out, r6⟩
                · have e5 : (s.final == 1000000001) = false := by simpa using hf
                  have I8 := Lib.hid (ILD.out (p :: EN) (fun _ => rfl) (fun h => absurd (HEQ.out.2 hf) h))
                  have hwr2 : IntKind.i64.wrap (cp + s.final) = cp + s.final := IntWalk.i64_in _ (by omega)
                  clear hf
                  go_wp2_with fail
                  refine (ypush_any HC8.out.hp (by omega) ⟨-1, cp + s.final, cp + s.final⟩).mono ?_
                  rintro e w9 ⟨rfl, l9', r9, hp9, hH9, hf9, hr9⟩
                  have HC9 := Lib.hid (HC8.out.heap hH9 hf9)
                  have X9 := Lib.hid (hf9.blk X8.out (fun e => by have := HC8.out.hp.q; obtain ⟨_, _, h9, -⟩ := this; have h8 := X8.out; subst e; unfold Blk at h8 h9; rw [h8] at h9; simp at h9) r6)
                  have Y9 := Lib.hid (hf9.blk Y8.out (fun e => by have := HC8.out.hp.q; obtain ⟨_, _, h9, -⟩ := this; have h8 := Y8.out; subst e; unfold Blk at h8 h9; rw [h8] at h9; simp at h9) (HC8.out.hp.rne Y8.out (by decide)))
                  have hl9 := hp9.length_eq
                  simp only [List.length_append, List.length_singleton] at hl9
                  have HP9 : Hid (l9'.Perm (O'.map (ioW b) ++ (p :: EN).map (ieW b))) := Lib.hid (perm_ie HPL.out (by unfold ieW; rw [HCO.out]; exact hp9))
                  have hr9x : r9 ≠ some xb := fun e => by
                    rcases hr9 _ e with h | h
                    · exact r6 h
                    · omega
                  clear hp9 hH9 hf9 hr9
                  go_wp2_with fail
                  go_meet
                  case rel => exact ⟨p :: EN, l9', r9, I8.out, HP9.out, HC9.out, by omega, X9.out, Y9.out, hr9x⟩
              case rest =>
                obtain ⟨EN2, l2, r2, hI2, hP2, hC2, hl2, hX2, hY2, hr2⟩ := hcut
                have HI2 := Lib.hid hI2; have HP2 := Lib.hid hP2; have HC2 := Lib.hid hC2; have HX2 := Lib.hid hX2; have HY2 := Lib.hid hY2
                have m9 := hY2.cell; have n9 := hY2.lt
                clear hI2 hP2 hC2 hX2 hY2 k8 l8 m8 n8 HC8 X8 Y8
                obtain ⟨wo, rfl⟩ : ∃ wx : World, wx = wc := ⟨_, rfl⟩
                have hexl2 : ex.length + 1 ≤ n * m.states.length := by
                  have := HI2.out.exlen (fun x hx => by rw [HSL.out]; exact HB.out.lt x hx)
                  rw [HSL.out, List.length_cons] at this
                  exact this
                have hgN2 := HG.out
                rw [hlp] at hgN2
                have hNs : (n * m.states.length - ex.length) * (AA + 1) = (n * m.states.length - (ex.length + 1)) * (AA + 1) + (AA + 1) := by
                  rw [show n * m.states.length - ex.length = n * m.states.length - (ex.length + 1) + 1 by omega, Nat.succ_mul]
                have hsl := HA.out s HSM.out
                have HPX : Hid (p ∈ p :: ex) := Lib.hid (by simp)
                have hxb : xb < wo.heap.size := HX2.out.lt
                go_upto_region 26 with fail
                go_loopw [123] (fun iv wx => ∃ (k : Nat) (O : List (List Nat)) (l : List WayL) (r : Option Nat), k ≤ s.arcs.length ∧ iv = .int .i64 k ∧ CI b n WW (fun x j => x = p ∧ k ≤ j) O EN2 (p :: ex) Dr ps (cp + dq) seen2 ∧ l.Perm (O.map (ioW b) ++ EN2.map (ieW b)) ∧ CostS w sn A m.states.length c db dl B sb wx seen2 l r (.slice oA out.length oc) out ∧ Blk wx xb #[.int .i64 q, .int .i64 cp, .int .i64 (cp + dq)] 139 ∧ r ≠ some xb ∧ l.length ≤ l2.length + k ∧ wo.heap.size ≤ wx.heap.size) (fun iv _ => s.arcs.length - (intOf iv).toNat)
                case atStart => exact ⟨0, O', l2, r2, by omega, rfl, HI2.out, HP2.out, HC2.out, HX2.out, hr2, by omega, Nat.le_refl _⟩
                case round =>
                  obtain ⟨k, O3, l3, r3, hk, rfl, hI3, hP3, hC3, hX3, hr3, hl3, hw3⟩ := hrel
                  have HI3 := Lib.hid hI3; have HP3 := Lib.hid hP3; have HC3 := Lib.hid hC3; have HX3 := Lib.hid hX3
                  clear hI3 hP3 hC3 hX3
                  by_cases hlt : k < s.arcs.length
                  · have hva := (HV.out.st s HSM.out).2 _ (List.getElem_mem hlt)
                    have hwa := HW.out s HSM.out _ (List.getElem_mem hlt)
                    have hga : (arcsAt m (b.q p))[k]? = some s.arcs[k] := by rw [HQQ.out, HAT.out, List.getElem?_eq_getElem hlt]
                    have harc := HB.out.arc p HVP.out k _ hga
                    have hlow := HB.out.low _ _ (List.mem_of_getElem? hga)
                    have hAr := HAS.out.below HC3.out.bel (Nat.le_refl _)
                    have g0 := hAr.c0 k hlt; have g1 := hAr.c1 k hlt; have g2 := hAr.c2 k hlt; have g3 := hAr.c3 k hlt
                    generalize s.arcs[k] = a at *
                    obtain ⟨tn, htn⟩ : ∃ tn : Nat, a.to = tn := ⟨a.to.toNat, by have := hva.t0; omega⟩
                    have htn2 : a.to.toNat = tn := by omega
                    rw [htn] at g3
                    rw [htn2] at harc hlow
                    have htl : tn < m.states.length := by have := hva.t1; omega
                    have hdb2 := HDB.out tn htl
                    have kd3 := HC3.out.dk.cell tn
                    rw [icellsA_get _ _ (by rw [HDL.out]; exact htl)] at kd3
                    have ld3 := HC3.out.dk.lt
                    rw [HCC.out] at harc
                    rw [HQQ.out, ← HB.out.dd q, HDQ.out] at hlow
                    have hdt := HB.out.dd tn
                    generalize hdt2 : dl.getD tn 0 = dt at *
                    have HDG := Lib.hid hdt2
                    have HARC := Lib.hid harc; have HLOW := Lib.hid hlow; have HDT := Lib.hid hdt
                    have w0 := hva.w0; have w1' := hva.w1
                    have la := World.block_lt_of_cell? _ _ g0
                    clear hga harc hlow hAr hva htn htn2 hdt2 hdt
                    have t0 : (0 : Int) ≤ ↑tn := by omega
                    have t1 : (↑tn : Int) < ↑m.states.length := by omega
                    have j0 : (0 : Int) ≤ ↑k := by omega
                    have j1 : (↑k : Int) < ↑s.arcs.length := by omega
                    go_upto_region 28 with fail
                    have Z4 := Lib.hid (Blk.new wr #[.int .i64 a.inn, .int .i64 a.out, .int .i64 a.wt, .int .i64 tn] 92)
                    have b4 : Below wr.heap.size wr (wr.alloc (.cells #[.int .i64 a.inn, .int .i64 a.out, .int .i64 a.wt, .int .i64 tn] 92)) := (by repeat' (first | exact Below.refl _ _ | assumption | refine Below.drew ?_ | refine Below.alloc ?_ (by first | omega | (simp; done) | (simp; omega)) _ | refine Below.setCell ?_ (by first | omega | (simp; done) | (simp; omega)) _))
                    have HC4 := Lib.hid (HC3.out.keep b4); have X4 := Lib.hid (HX3.out.step b4)
                    have hw4 : wo.heap.size ≤ (wr.alloc (.cells #[.int .i64 a.inn, .int .i64 a.out, .int .i64 a.wt, .int .i64 tn] 92)).heap.size := by simp; omega
                    have hzl := X4.out.lt
                    clear kd3 ld3 g0 g1 g2 g3 la b4 HC3 HX3 m9 n9
                    generalize wr.alloc (.cells #[.int .i64 a.inn, .int .i64 a.out, .int .i64 a.wt, .int .i64 tn] 92) = w4' at *
                    generalize wr.heap.size = zb at *
                    have kz := Z4.out.cell; have lz := Z4.out.lt
                    have kx := X4.out.cell; have lx := X4.out.lt
                    have kd := HC4.out.dk.cell tn
                    rw [icellsA_get _ _ (by rw [HDL.out]; exact htl), HDG.out] at kd
                    have ld := HC4.out.dk.lt
                    by_cases hin : dt = 1000000001
                    · have e6 : (dt == 1000000001) = true := by simpa using hin
                      have I5 := Lib.hid (HI3.out.skip (fun hV => (HARC.out.2.2.1 hV) hin))
                      clear hin
                      go_wp2_with fail
                      go_roundw
                      case rel => exact ⟨k + 1, O3, l3, r3, by omega, by go_num, I5.out, HP3.out, HC4.out, X4.out, hr3, by omega, hw4⟩
                      case measure => simp [intOf]; omega
                    · have e6 : (dt == 1000000001) = false := by simpa using hin
                      have I5 := Lib.hid (HI3.out.push HPX.out (HARC.out.2.2.2 hin) (by rw [HARC.out.2.1, HARC.out.1, HDT.out]; have := HLOW.out hin; omega) (by rw [HARC.out.2.1, HCC.out]; omega))
                      have HIO : Hid (ioW b (k :: p) = ⟨(tn : Nat), cp + a.wt, cp + a.wt + dt⟩) := Lib.hid (by unfold ioW; rw [HARC.out.2.1, HARC.out.1, HDT.out])
                      have hwr3 : IntKind.i64.wrap (cp + a.wt) = cp + a.wt := IntWalk.i64_in _ (by omega)
                      have hwr4 : IntKind.i64.wrap (cp + a.wt + dt) = cp + a.wt + dt := IntWalk.i64_in _ (by omega)
                      clear hin
                      go_upto_region 30 with fail
                      go_still_tail 13, (by kernel_rfl)
                      change wpList _ _ _ _ _ w4'.drew
                      have bdr : Below w4'.heap.size w4' w4'.drew := (Below.refl _ _).drew
                      have HC5 := Lib.hid (HC4.out.keep bdr); have X5 := Lib.hid (X4.out.step bdr)
                      have hw5 : wo.heap.size ≤ w4'.drew.heap.size := hw4
                      clear kz lz kx lx kd ld HC4 X4 bdr
                      generalize w4'.drew = w5' at *
                      go_wp2_with fail
                      refine (ypush_any HC5.out.hp (by omega) ⟨(tn : Nat), cp + a.wt, cp + a.wt + dt⟩).mono ?_
                      rintro e w9 ⟨rfl, l9', r9, hp9, hH9, hf9, hr9⟩
                      have HC9 := Lib.hid (HC5.out.heap hH9 hf9)
                      have X9 := Lib.hid (hf9.blk X5.out (fun e => by have := HC5.out.hp.q; obtain ⟨_, _, h9, -⟩ := this; have h8 := X5.out; subst e; unfold Blk at h8 h9; rw [h8] at h9; simp at h9) hr3)
                      have hl9 := hp9.length_eq
                      simp only [List.length_append, List.length_singleton] at hl9
                      have HP9 : Hid (l9'.Perm ((( k :: p) :: O3).map (ioW b) ++ EN2.map (ieW b))) := Lib.hid (perm_io HP3.out (by rw [HIO.out]; exact hp9))
                      have hr9x : r9 ≠ some xb := fun e => by
                        rcases hr9 _ e with h | h
                        · exact hr3 h
                        · omega
                      have hw9 : wo.heap.size ≤ w9.heap.size := by have := hf9.size; omega
                      clear hp9 hH9 hf9 hr9
                      go_wp2_with fail
                      go_roundw
                      case rel => exact ⟨k + 1, _, l9', r9, by omega, by go_num, I5.out, HP9.out, HC9.out, X9.out, hr9x, by omega, hw9⟩
                      case measure => simp [intOf]; omega
                  · obtain rfl : k = s.arcs.length := by omega
                    have j1 : ¬ (↑s.arcs.length : Int) < ↑s.arcs.length := by omega
                    have I9 : Hid (CI b n WW (fun _ _ => False) O3 EN2 (p :: ex) Dr ps (cp + dq) seen2) := Lib.hid (HI3.out.rest (fun i hi => HB.out.non p HVP.out i (by rw [HQQ.out, HAT.out]; exact List.getElem?_eq_none hi)))
                    go_wp2_with fail
                    go_roundg ((n * m.states.length - (p :: ex).length) * (AA + 1) + l3.length)
                    case measure => simp only [List.length_cons]; omega
                    case rel => exact ⟨O3, EN2, p :: ex, Dr, ps, _, seen2, l3, r3, I9.out, HP3.out, by rw [HOUT.out]; exact HC3.out, HSL.out, Nat.le_refl _, by simp only [List.length_cons]; omega, HSG2.out _ (by simp only [List.length_cons]; omega)⟩
          · clear HPP
            have I6 := Lib.hid (HI.out.perm (List.Perm.refl O) hE')
            have hla := least_all HP.out HMIN.out
            have hm1 : ∀ x ∈ O, b.cost p ≤ b.c x + b.d (b.q x) := hla.1
            have hm2 : ∀ x ∈ EN', b.cost p ≤ b.cost x := fun x hx => hla.2 x (hE'.mem_iff.2 (by simp [hx]))
            have hpx := I6.out.en p (.inl (by simp))
            have hcx := I6.out.cbx p hpx.1
            have hexl : ex.length ≤ n * m.states.length := by rw [← hsl2]; exact I6.out.exlen (fun x hx => by rw [hsl2]; exact HB.out.lt x hx)
            have hNW : ((ex.length : Nat) : Int) * WW ≤ ((n * m.states.length : Nat) : Int) * WW := Int.mul_le_mul_of_nonneg_right (by omega) hW0
            have hfp : 0 ≤ finI m (b.q p) ∧ finI m (b.q p) ≤ F := by
              have hq := HB.out.lt p (I6.out.vx p hpx.1)
              have hne := (HB.out.ends _).1 hpx.2
              rw [finI_of hq] at hne ⊢
              refine ⟨?_, HF.out _ (List.getElem_mem hq) hne⟩
              have := (HV.out.st _ (List.getElem_mem hq)).1
              unfold ValidFinal at this; omega
            have hcost : b.cost p = b.c p + finI m (b.q p) := by unfold Begs.cost; rw [HB.out.fin]
            have I7 := Lib.hid (I6.out.emit hm1 hm2 (by have := HOL.out; omega))
            unfold ieW at k6
            simp only at k6
            have hcb : 0 ≤ b.cost p ∧ b.cost p ≤ 1000000000 := by omega
            have HON : Hid ((ps ++ [p]).map b.cost = out ++ [b.cost p]) := Lib.hid (by rw [List.map_append, HOUT.out]; rfl)
            have HPL := Lib.hid hl'
            clear hm1 hm2 hla hpx hcx hNW hfp hcost hl' hE'
            generalize b.cost p = cc at *
            have e3 : ¬ (1000000000 : Int) < cc := by omega
            have hmx : out.length + 1 ≤ maxLen := by unfold maxLen; omega
            go_wp2_with (at_builtin; refine wpList_app1 rfl _ _ rfl eltInt B (.slice oA out.length oc) out.length (icells out) rfl w6 HC6.out.ok #[.int .i64 cc] rfl w6.heap.size rfl rfl rfl (by simp [Value.oneCell']) (by omega) (by omega) HC6.out.hp.hb ?_; intro g2 cap2 w8 hown2 hg2 hat2 hlt6)
            have HC8 := Lib.hid (HC6.out.app1 hg2 cc hown2 (hat2.imp id (fun h => Nat.le_of_lt h)))
            clear hown2 hg2 hat2 hlt6
            go_roundg ((n * m.states.length - ex.length) * (AA + 1) + l'.length)
            case measure => have := HG.out; rw [hlp] at this; omega
            case rel => exact ⟨O, EN', ex, Dr, ps ++ [p], _, seen, l', r', I7.out, HPL.out, by rw [HON.out]; exact HC8.out, hsl2, Nat.le_refl _, by have := HG.out; rw [hlp] at this; omega, fun q' => by have := HSG.out q'; have := HG.out; rw [hlp] at this; omega⟩
      · have hi : ¬ (out.length : Int) < n := by omega
        have HFN : Hid (ps.length = n) := Lib.hid (by have := HOL.out; omega)
        by_cases hl0 : 0 < l.length
        · go_wp2_with fail
          go_ret2
          exact ⟨_, rfl, FIN.out (.inr HFN.out), HC.out.bel⟩
        · go_wp2_with fail
          go_ret2
          exact ⟨_, rfl, FIN.out (.inr HFN.out), HC.out.bel⟩
end Go.Proofs.Ytndajklppipckaa
