/- The laws on coded maps, at an operation of the walk and at a step of a region that draws. -/
import Derived.Test.YtfikkpgigicepaaMaps
namespace Go.Proofs.Ytfikkpgigicepaa
open Go.RowKit
open Go.ChangeMaps (setBlock)

section
variable {κ ν : Type} [DecidableEq κ] {P : Program} {kt t e : TypeId} {c : κ → Value} {d : ν → Value} {w : World} {b : Nat} {l : List (κ × ν)} {ops : Array Oper} {rest : List Oper} {o : Oper} {a : Act} {Q : Exit → Act → World → Prop} {K : Act → World → Prop} {EE : Prop}

theorem wp_lookup_x {m x : Operand} {ok : Bool} (ho : o.op = .lookup t m x ok) (KO : KeyOk P kt c) (ht : P.underlying t = some (.map kt e)) (k : κ) {z : Value} (hz : (zeroValue e).run P w = .ok z w) (hm : a.eval m = .map (some b)) (hx : a.eval x = c k) (h : MapB w b c d l)
    (hK : K (a.put o.dst (if ok then .tuple #[((assoc l k).map d).getD z, .bool (assoc l k).isSome] else ((assoc l k).map d).getD z)) w) : o.wp P a w K Q := by
  unfold Oper.wp
  simp only [execOp, ho, hm, hx, Sem.run_bind, run_lookup_x h KO ht k ok hz, Result.andThen_ok, Sem.run_pure]
  exact hK
theorem wp_mapEntry_x {m x : Operand} (ho : o.op = .mapEntry t m x) (KO : KeyOk P kt c) (ht : P.underlying t = some (.map kt e)) (k : κ) (z : ν) (hz : (zeroValue e).run P w = .ok (d z) w) (hm : a.eval m = .map (some b)) (hx : a.eval x = c k) (h : MapB w b c d l)
    (hK : ∀ (i : Nat) w', MapB w' b c d (mput l k ((assoc l k).getD z)) → w.grownBy w' (some b) → (∃ hi : i < (mput l k ((assoc l k).getD z)).length, (mput l k ((assoc l k).getD z))[i].1 = k) → K (a.put o.dst (.tuple #[d ((assoc l k).getD z), .int .i64 (i : Nat)])) w') : o.wp P a w K Q := by
  obtain ⟨i, hrun, hi⟩ := run_mapEntry_x h KO ht k z hz
  unfold Oper.wp
  simp only [execOp, ho, hm, hx, Sem.run_bind, hrun, Result.andThen_ok, Sem.run_pure]
  exact hK i _ (h.put k _) (setBlock_grown _) hi
theorem wp_entryStore_x {m x y : Operand} (ho : o.op = .entryStore t m x y) {k : κ} {i : Nat} (v : ν) (hm : a.eval m = .map (some b)) (hx : a.eval x = .int .i64 (i : Nat)) (hy : a.eval y = d v) (h : MapB w b c d l) (hi : ∃ hi : i < l.length, l[i].1 = k)
    (hK : ∀ w', MapB w' b c d (mput l k v) → w.grownBy w' (some b) → K (a.put o.dst undef) w') : o.wp P a w K Q := by
  unfold Oper.wp
  simp only [execOp, ho, hm, hx, hy, Sem.run_bind, run_entryStore_x h t hi v, Result.andThen_ok, Sem.run_pure]
  exact hK _ (h.put k v) (setBlock_grown _)
theorem wp_mapUpdate_x {m x y : Operand} (ho : o.op = .mapUpdate t m x y) (KO : KeyOk P kt c) (ht : P.underlying t = some (.map kt e)) (k : κ) (v : ν) (hm : a.eval m = .map (some b)) (hx : a.eval x = c k) (hy : a.eval y = d v) (h : MapB w b c d l)
    (hK : ∀ w', MapB w' b c d (mput l k v) → w.grownBy w' (some b) → K (a.put o.dst undef) w') : o.wp P a w K Q := by
  unfold Oper.wp
  simp only [execOp, ho, hm, hx, hy, Sem.run_bind, run_mapUpdate_x h KO ht k v, Result.andThen_ok, Sem.run_pure]
  exact hK _ (h.put k v) (setBlock_grown _)

abbrev intV (n : Int) : Value := .int .i64 n
theorem wp_lookup_int {l : List (κ × Int)} {m x : Operand} (ho : o.op = .lookup t m x false) (KO : KeyOk P kt c) (ht : P.underlying t = some (.map kt e)) (k : κ) (n : Int) (hz : (zeroValue e).run P w = .ok (.int .i64 0) w) (hm : a.eval m = .map (some b)) (hx : a.eval x = c k) (h : MapB w b c intV l) (hn : (assoc l k).getD 0 = n)
    (hK : K (a.put o.dst (.int .i64 n)) w) : o.wp P a w K Q := by
  refine wp_lookup_x ho KO ht k hz hm hx h ?_
  have e : ((assoc l k).map intV).getD (.int .i64 0) = .int .i64 n := by rw [← hn]; cases assoc l k <;> rfl
  simp only [Bool.false_eq_true, if_false, e]; exact hK
theorem run_lookup_int {l : List (κ × Int)} (KO : KeyOk P kt c) (ht : P.underlying t = some (.map kt e)) (k : κ) (n : Int) (hz : (zeroValue e).run P w = .ok (.int .i64 0) w) (h : MapB w b c intV l) (hn : (assoc l k).getD 0 = n) :
    (Instr.lookup t (.map (some b)) (c k) false).run P w = .ok (.int .i64 n) w := by
  rw [run_lookup_x h KO ht k false hz]
  have e : ((assoc l k).map intV).getD (.int .i64 0) = .int .i64 n := by rw [← hn]; cases assoc l k <;> rfl
  simp only [Bool.false_eq_true, if_false, e]

theorem step_of (hgd : o.guard = none) (h : o.wp P a w K Q) : if Region.wanted o (yielded ops a.tmps) = true then Oper.wp P o a w K Q else EE := by
  rw [if_pos (by simp [Region.wanted, hgd])]; exact h

theorem wpList_lookup_x {m x : Operand} {ok : Bool} (hgd : o.guard = none) (ho : o.op = .lookup t m x ok) (KO : KeyOk P kt c) (ht : P.underlying t = some (.map kt e)) (k : κ) {z : Value} (hz : (zeroValue e).run P w = .ok z w) (hm : a.eval m = .map (some b)) (hx : a.eval x = c k) (h : MapB w b c d l)
    (hK : wpList P ops Q rest (a.put o.dst (if ok then .tuple #[((assoc l k).map d).getD z, .bool (assoc l k).isSome] else ((assoc l k).map d).getD z)) w) : wpList P ops Q (o :: rest) a w :=
  wpList_plain hgd fun _ hK' => wp_lookup_x ho KO ht k hz hm hx h (hK' _ _ hK)
theorem wpList_mapUpdate_x {m x y : Operand} (hgd : o.guard = none) (ho : o.op = .mapUpdate t m x y) (KO : KeyOk P kt c) (ht : P.underlying t = some (.map kt e)) (k : κ) (v : ν) (hm : a.eval m = .map (some b)) (hx : a.eval x = c k) (hy : a.eval y = d v) (h : MapB w b c d l)
    (hK : ∀ w', MapB w' b c d (mput l k v) → w.grownBy w' (some b) → wpList P ops Q rest (a.put o.dst undef) w') : wpList P ops Q (o :: rest) a w :=
  wpList_plain hgd fun _ hK' => wp_mapUpdate_x ho KO ht k v hm hx hy h (fun w' h1 h2 => hK' _ _ (hK w' h1 h2))
end
end Go.Proofs.Ytfikkpgigicepaa
