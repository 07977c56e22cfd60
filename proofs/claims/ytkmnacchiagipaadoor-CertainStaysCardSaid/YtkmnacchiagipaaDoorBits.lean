/- core.Bits: what a machine is like. -/
import Derived.Test.YtkmnacchiagipaaDoorCheck
import Derived.Test.YtkmnacchiagipaaDoorSorted
import Derived.Test.YtkmnacchiagipaaDoorKey2
import Derived.Test.YtkmnacchiagipaaDoorMaps
import Derived.Test.YtkmnacchiagipaaDoorSlices
import Derived.Deep.RegionLaw
import Derived.BigGuardPart
namespace Go.Proofs.YtkmnacchiagipaaDoor
open Go.RowKit

def labsOf (l : List ArcL) : List (Int × Int) := l.map fun a => (a.inn, a.out)
def accA (a : ArcL) : Bool := a.inn == a.out
def fullA (a : ArcL) : Bool := !(a.inn == 0 && a.out == 0)
def plainA (a : ArcL) : Bool := a.wt == 0
def nodupB (l : List (Int × Int)) : Bool := decide l.Nodup
structure BitsL where
  acc : Bool
  full : Bool
  cert : Bool
  sorted : Bool
  plain : Bool
/-- what the states behind b turn the bits to -/
noncomputable def bitsS (b : BitsL) (s : StateL) : BitsL :=
  ⟨b.acc && s.arcs.all accA, b.full && s.arcs.all fullA, b.cert && nodupB (labsOf s.arcs), b.sorted && sortedL s.arcs, (b.plain && (s.final == 0 || s.final == 1000000001)) && s.arcs.all plainA⟩
noncomputable def bitsT (ss : List StateL) : BitsL := ss.foldl bitsS ⟨true, true, true, true, true⟩
noncomputable def bitsOf (ss : List StateL) : BitsL := { bitsT ss with cert := (bitsT ss).cert && (bitsT ss).full }

theorem bitsT_snoc (ss : List StateL) (k : Nat) (h : k < ss.length) : bitsT (ss.take (k + 1)) = bitsS (bitsT (ss.take k)) ss[k] := by
  unfold bitsT; rw [List.take_succ_eq_append_getElem h, List.foldl_append]; rfl

theorem all_snoc {α : Type} (l : List α) (p : α → Bool) (t : Nat) (h : t < l.length) : (l.take (t + 1)).all p = ((l.take t).all p && p l[t]) := by
  rw [List.take_succ_eq_append_getElem h, List.all_append]; simp only [List.all_cons, List.all_nil, Bool.and_true]
theorem labs_snoc (l : List ArcL) (t : Nat) (h : t < l.length) : labsOf (l.take (t + 1)) = labsOf (l.take t) ++ [(l[t].inn, l[t].out)] := by
  unfold labsOf; rw [List.take_succ_eq_append_getElem h, List.map_append]; rfl

/-- how often each pair was met -/
def cntMap (ls : List (Int × Int)) : List ((Int × Int) × Int) := ls.foldl (fun m x => mput m x ((assoc m x).getD 0 + 1)) []
theorem cntMap_snoc (ls : List (Int × Int)) (x : Int × Int) : cntMap (ls ++ [x]) = mput (cntMap ls) x ((assoc (cntMap ls) x).getD 0 + 1) := by
  unfold cntMap; rw [List.foldl_append]; rfl
theorem cnt_fold (ls : List (Int × Int)) : ∀ (m : List ((Int × Int) × Int)) (x : Int × Int), (assoc (ls.foldl (fun m x => mput m x ((assoc m x).getD 0 + 1)) m) x).getD 0 = (assoc m x).getD 0 + (ls.count x : Int) := by
  induction ls with
  | nil => intro m x; simp
  | cons y ls ih =>
    intro m x
    simp only [List.foldl_cons]
    rw [ih, assoc_mput, List.count_cons]
    by_cases h : x = y
    · subst h; simp; omega
    · have h' : ¬ y = x := fun e => h e.symm
      simp [h, h']
theorem cnt_val (ls : List (Int × Int)) (x : Int × Int) : (assoc (cntMap ls) x).getD 0 = (ls.count x : Int) := by
  unfold cntMap; rw [cnt_fold]; simp [assoc]
theorem nodupB_snoc (ls : List (Int × Int)) (x : Int × Int) : nodupB (ls ++ [x]) = (nodupB ls && ((ls.count x : Int) + 1 == 1)) := by
  unfold nodupB
  have : (ls ++ [x]).Nodup ↔ ls.Nodup ∧ x ∉ ls := by
    rw [List.nodup_append]
    constructor
    · rintro ⟨h1, _, h3⟩; exact ⟨h1, fun hm => h3 x hm x (by simp) rfl⟩
    · rintro ⟨h1, h2⟩; exact ⟨h1, by simp, by intro a ha b hb; simp at hb; subst hb; intro e; subst e; exact h2 ha⟩
  rw [Bool.eq_iff_iff]
  simp only [decide_eq_true_eq, Bool.and_eq_true, beq_iff_eq, this]
  have hc : (x ∉ ls) ↔ ((ls.count x : Int) + 1 = 1) := by
    rw [← List.count_eq_zero]; omega
  rw [hc]

/-- the box of the bits -/
abbrev bitsC (b : BitsL) : Array Value := #[.bool b.acc, .bool b.full, .bool b.cert, .bool b.sorted, .bool b.plain]
/-- what an inner round holds -/
structure InB (w1 wx : World) (aB pB M : Nat) (b : BitsL) (x : ArcL) (l : List ((Int × Int) × Int)) : Prop where
  p : Blk wx w1.heap.size (bitsC b) 66
  ar : Blk wx aB #[.int .i64 x.inn, .int .i64 x.out, .int .i64 x.wt, .int .i64 x.to] 78
  pr : Blk wx pB #[.int .i64 x.inn, .int .i64 x.out] 151
  mp : MapB wx M key2 intV l
  bel : Below w1.heap.size w1 wx
theorem InB.put {w1 wx : World} {aB pB M : Nat} {b b' : BitsL} {a : ArcL} {l : List ((Int × Int) × Int)} (h : InB w1 wx aB pB M b a l) (h1 : w1.heap.size < aB) (h2 : w1.heap.size < pB) (h3 : w1.heap.size < M) (o : Nat) (u : Value) (e : (bitsC b).setIfInBounds o u = bitsC b') :
    InB w1 (wx.setCell ⟨w1.heap.size, o, none⟩ u) aB pB M b' a l :=
  ⟨(h.p.put o u).eq e, h.ar.far (by simp; omega) _, h.pr.far (by simp; omega) _, h.mp.setCell (by simp; omega) _, h.bel.setCell (by simp) _⟩
theorem zeroInt (w : World) : (zeroValue 3).run Tryd.prog w = .ok (.int .i64 0) w := by kernel_rfl
end Go.Proofs.YtkmnacchiagipaaDoor
