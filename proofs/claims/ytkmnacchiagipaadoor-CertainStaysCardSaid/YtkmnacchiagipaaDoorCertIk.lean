/- certain.Make's memory in the loop over pairs of labels. -/
import Derived.Test.YtkmnacchiagipaaDoorCertMk
namespace Go.Proofs.YtkmnacchiagipaaDoor
open Go.RowKit
open Go.ChangeMaps (setBlock)

theorem grown_setC (w : World) (b o : Nat) (u : Value) : w.grownBy (w.setCell ⟨b, o, none⟩ u) (some b) :=
  ⟨rfl, rfl, rfl, by simp [World.setCell], fun i _ hi => Below.heap_setCell _ _ _ _ (fun e => hi (by simp at e; rw [e]))⟩
theorem own_cellsOf {w : World} {base : Nat} {e : TypeId} {size n : Nat} {v : Value} {xs : List Value} (h : w.ownsRow base e size v n xs) {k : Nat} (hk : v.ownBlock = some k) : ∃ cur, w.heap[k]? = some (.cells cur e (0, 0)) := by
  rcases h.2 with ⟨rfl, _⟩ | ⟨g, cap, cur, rfl, _, hg, _⟩
  · simp [Value.ownBlock] at hk
  · simp [Value.ownBlock] at hk
    subst hk
    exact ⟨cur, hg⟩
structure IK (w : World) (B : Option Addr) (n cb : Nat) (st : Int) (g bn b0 bs base : Nat) (f : Int) (sv : Value) (vs : List Value) (ss : List StateL) (L : TabL) (F : TabF) (kv : Value) (ks : List (Int × Int)) (wr : World) (tv av : Value) (Ss : List SetL) (ts : List Value) (NL : List (List UInt8 × Nat)) (cur : List ArcL) : Prop where
  mem : MK w B n cb st g bn wr tv sv vs ss Ss ts NL
  sb : Blk wr bs #[.int .i64 f, av] 76
  ar : OwnArcs wr base av cur
  tb : TabsC wr bn b0 L F
  ky : OwnTwos 141 wr w.heap.size kv ks
  lo : ∀ v, v = sv ∨ v ∈ vs → ∀ k, v.ownBlock = some k → k < base
  bse : w.heap.size ≤ base ∧ base ≤ bs
section
variable {w wr w' : World} {B : Option Addr} {n cb g bn b0 bs base : Nat} {st f : Int} {sv : Value} {vs : List Value} {ss : List StateL} {L : TabL} {F : TabF} {kv : Value} {ks : List (Int × Int)} {tv av : Value} {Ss : List SetL} {ts : List Value} {NL : List (List UInt8 × Nat)} {cur : List ArcL}
theorem IK.keep (h : IK w B n cb st g bn b0 bs base f sv vs ss L F kv ks wr tv av Ss ts NL cur) (hb : Below wr.heap.size wr w') : IK w B n cb st g bn b0 bs base f sv vs ss L F kv ks w' tv av Ss ts NL cur :=
  ⟨h.mem.keep hb, h.sb.step hb, h.ar.below hb (Nat.le_refl _), h.tb.keep hb, own_below h.ky hb (Nat.le_refl _), h.lo, h.bse⟩
/-- a box of its own changes -/
theorem IK.box (h : IK w B n cb st g bn b0 bs base f sv vs ss L F kv ks wr tv av Ss ts NL cur) {b : Nat} {cs : Array Value} {T : TypeId} (hb : Blk wr b cs T) (hbb : base ≤ b) (hT : T ≠ 41 ∧ T ≠ 132 ∧ T ≠ 130 ∧ T ≠ 76 ∧ T ≠ 78 ∧ T ≠ 141) (o : Nat) (u : Value) :
    IK w B n cb st g bn b0 bs base f sv vs ss L F kv ks (wr.setCell ⟨b, o, none⟩ u) tv av Ss ts NL cur := by
  have hg := grown_setC wr b o u
  have hk : wr.heap[b]? = some (.cells cs T (0, 0)) := hb
  obtain ⟨h1, h2, h3, h4, h5, h6⟩ := hT
  refine ⟨h.mem.keptT hg (fun k e => ?_), h.sb.grown hg (fun e => ?_), h.ar.grown hg (.inr (ownT_ne h.ar hk h5.symm)), h.tb.kept hg (fun k e => ?_), World.ownsRow.kept h.ky hg (.inr (ownT_ne h.ky hk h6.symm)), h.lo, h.bse⟩
  · injection e with e; subst e
    exact ⟨⟨_, _, _, hk, h1, h2, h3⟩, Nat.le_trans h.bse.1 hbb, fun v hv e => by have := h.lo v hv _ e; omega⟩
  · injection e with e
    exact blkT_ne h.sb hk h4.symm e.symm
  · injection e with e; subst e
    exact .inr ⟨_, _, _, hk⟩
/-- a number is put down -/
theorem IK.putN (h : IK w B n cb st g bn b0 bs base f sv vs ss L F kv ks wr tv av Ss ts NL cur) (k : List UInt8) (j : Nat) :
    IK w B n cb st g bn b0 bs base f sv vs ss L F kv ks (setBlock wr bn (mapObj strC atV (mput NL k j))) tv av Ss ts (mput NL k j) cur := by
  have hg : wr.grownBy (setBlock wr bn (mapObj strC atV (mput NL k j))) (some bn) := setBlock_grown _
  have hno : ∀ cur e' fz, wr.heap[bn]? ≠ some (.cells cur e' fz) := fun cur e' fz e => by rw [h.mem.nm.blk] at e; cases e
  exact ⟨h.mem.putN k j, h.sb.setMap h.mem.nm _, h.ar.grown hg (.inr (own_ne_cellsC h.ar hno)), h.tb.kept hg (fun k e => by injection e with e; exact .inl e.symm), World.ownsRow.kept h.ky hg (.inr (own_ne_cellsC h.ky hno)), h.lo, h.bse⟩
/-- a set is put behind those that wait -/
theorem IK.addSet (h : IK w B n cb st g bn b0 bs base f sv vs ss L F kv ks wr tv av Ss ts NL cur) (hg : wr.grownBy w' tv.ownBlock) {v' : Value} {A : Option Addr} {c : Nat} {T : SetL} (hT : OwnTwos 130 wr w.heap.size (.slice A T.length c) (setI T)) (ho : w'.ownsRow w.heap.size 132 1 v' (Ss.length + 1) (ts ++ [.slice A T.length c])) :
    IK w B n cb st g bn b0 bs base f sv vs ss L F kv ks w' v' av (Ss ++ [T]) (ts ++ [.slice A T.length c]) NL cur := by
  refine ⟨h.mem.addSet hg hT ho, h.sb.grown hg (fun e => ?_), h.ar.grown hg (own_ne h.ar h.mem.td (by decide)), h.tb.kept hg (fun k e => ?_), World.ownsRow.kept h.ky hg (own_ne h.ky h.mem.td (by decide)), h.lo, h.bse⟩
  · have hk := h.sb
    unfold Blk at hk
    exact ownT_ne h.mem.td hk (by decide) e.symm
  · obtain ⟨cur, hc⟩ := own_cellsOf h.mem.td e
    exact .inr ⟨_, _, _, hc⟩
/-- an arc is put down -/
theorem IK.arc (h : IK w B n cb st g bn b0 bs base f sv vs ss L F kv ks wr tv av Ss ts NL cur) (hg : wr.grownBy w' av.ownBlock) (a : ArcL) {v' : Value} {k : Nat} (hk : k = cur.length + 1) (hx : w'.ownsRow base 78 4 v' k (arcsCells cur ++ arcCells a)) :
    IK w B n cb st g bn b0 bs base f sv vs ss L F kv ks (w'.setCell ⟨bs, 1, none⟩ v') tv v' Ss ts NL (cur ++ [a]) := by
  have hsb := h.sb
  have hsbk : wr.heap[bs]? = some (.cells #[.int .i64 f, av] 76 (0, 0)) := hsb
  have ho : OwnArcs w' base v' (cur ++ [a]) := by unfold OwnArcs; rw [arcsCells_snoc, List.length_append]; subst hk; exact hx
  have m1 := h.mem.keptT hg (fun k e => by
    obtain ⟨c0, hc⟩ := own_cellsOf h.ar e
    exact ⟨⟨_, _, _, hc, by decide, by decide, by decide⟩, Nat.le_trans h.bse.1 (World.ownsRow.lt h.ar k e).1, fun v hv e2 => by have := h.lo v hv _ e2; have := (World.ownsRow.lt h.ar k e).1; omega⟩)
  have s1 : Blk w' bs #[.int .i64 f, av] 76 := hsb.grown hg (fun e => ownT_ne h.ar hsbk (by decide) e.symm)
  have s1k : w'.heap[bs]? = some (.cells #[.int .i64 f, av] 76 (0, 0)) := s1
  have t1 := h.tb.kept hg (fun k e => by
    obtain ⟨c0, hc⟩ := own_cellsOf h.ar e
    exact .inr ⟨_, _, _, hc⟩)
  have k1 : OwnTwos 141 w' w.heap.size kv ks := World.ownsRow.kept h.ky hg (own_ne h.ky h.ar (by decide))
  have hg2 := grown_setC w' bs 1 v'
  refine ⟨m1.keptT hg2 (fun k e => ?_), (s1.put 1 v').eq (by simp), ho.setCell (ownT_ne ho s1k (by decide)) _, t1.kept hg2 (fun k e => ?_), own_setCell k1 (ownT_ne k1 s1k (by decide)) _, h.lo, h.bse⟩
  · injection e with e; subst e
    exact ⟨⟨_, _, _, s1k, by decide, by decide, by decide⟩, Nat.le_trans h.bse.1 h.bse.2, fun v hv e2 => by have := h.lo v hv _ e2; have := h.bse.2; omega⟩
  · injection e with e; subst e
    exact .inr ⟨_, _, _, s1k⟩
end
end Go.Proofs.YtkmnacchiagipaaDoor
