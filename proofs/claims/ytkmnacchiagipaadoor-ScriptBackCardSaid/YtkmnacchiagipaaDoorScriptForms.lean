/- script.forms, as it was laid. -/
import Derived.Test.YtkmnacchiagipaaDoorScriptName
import Derived.OpenShut
import Derived.Test.YtkmnacchiagipaaDoorMem
import Derived.LaidMore
namespace Go.Proofs.YtkmnacchiagipaaDoor
open Go.RowKit

/-- the table of forms reads as it was laid -/
def FormsP (W : World) : Prop := ∀ k, k < 15 → W.cell? ⟨0, k * 3, none⟩ = some (.int .i64 (k + 1)) ∧ W.cell? ⟨0, k * 3 + 1, none⟩ = some (.string ⟨(wordF k).toArray⟩) ∧ W.cell? ⟨0, k * 3 + 2, none⟩ = some (.string ⟨(argsF k).toArray⟩)
theorem FormsP.below {w w' : World} (h : FormsP w) (hb : Below w.heap.size w w') : FormsP w' := fun k hk => by
  obtain ⟨h1, h2, h3⟩ := h k hk
  exact ⟨cell_keep hb (Nat.le_refl _) h1, cell_keep hb (Nat.le_refl _) h2, cell_keep hb (Nat.le_refl _) h3⟩
theorem forms_laid : (Rows.laid_tropica_script_forms : DataW Unit) = .agg (formsL.map fun f => .agg [.lit (.int .i64 f.1), .lit (.string f.2.1), .lit (.string f.2.2)]) := rfl
theorem fieldsForm : ∃ f0 f1 f2 : Field, Tryd.prog.underlying 176 = some (.struct #[f0, f1, f2]) ∧ f0.type = 3 ∧ f1.type = 9 ∧ f2.type = 9 ∧ f0.offset = 0 ∧ f1.offset = 1 ∧ f2.offset = 2 ∧ Tryd.prog.cellsOf 176 = 3 :=
  ⟨_, _, _, Tryd.underlying176, rfl, rfl, rfl, rfl, rfl, rfl, by kernel_rfl⟩
theorem cellsIntS : Tryd.prog.cellsOf 3 = 1 ∧ Tryd.prog.cellsOf 9 = 1 := ⟨by kernel_rfl, by kernel_rfl⟩
theorem one_at {l : List Value} {i : Nat} {v : Value} (h : (l.drop i).take 1 = [v]) : l[i]? = some v := by
  have := congrArg (·[0]?) h
  simpa [List.getElem?_take, List.getElem?_drop] using this
set_option maxRecDepth 100000 in
theorem forms_of {W : World} {r : List (String × DataW Unit)} (h : laidMet Tryd.prog (("tropica/script.forms", Rows.laid_tropica_script_forms) :: r) W) : FormsP W := by
  obtain ⟨ps, ⟨g', t', cs, fuel, p, q, hg', ht', hvar, hd, _, _⟩, _⟩ := h
  have hg : Tryd.prog.globalNamed "tropica/script.forms" = some 0 := by kernel_rfl
  have hty : (Tryd.prog.globals[(0 : Nat)]?).map (·.type) = some 177 := by kernel_rfl
  obtain rfl := Option.some.inj (hg.symm.trans hg')
  obtain rfl := Option.some.inj (hty.symm.trans ht')
  obtain ⟨xs, m, -, hx, hl, hxl, hi⟩ := DataW.trod_array Tryd.underlying177 hd
  obtain ⟨f0, f1, f2, hu, t0, t1, t2, o0, o1, o2, hc⟩ := fieldsForm
  rw [hc] at hi
  have hxs : xs.map (·.1) = formsL.map fun f => (DataW.agg [.lit (.int .i64 f.1), .lit (.string f.2.1), .lit (.string f.2.2)] : DataW Unit) := by
    have e := congrArg Prod.fst hx
    simp only at e
    rw [forms_laid] at e
    injection e with e
    exact e.symm
  intro k hk
  have h1 := hi k hk
  have hfk : k < formsL.length := by simpa [formsL] using hk
  have hkx : k < xs.length := by omega
  rw [List.getElem?_eq_getElem hkx] at h1
  obtain ⟨ys, n', -, hag, hcl, hyl, hf⟩ := DataW.trod_struct hu h1
  have hxk : (xs[k]).1 = .agg [.lit (.int .i64 formsL[k].1), .lit (.string formsL[k].2.1), .lit (.string formsL[k].2.2)] := by
    have := congrArg (·[k]?) hxs
    simp only [List.getElem?_map, List.getElem?_eq_getElem hkx, List.getElem?_eq_getElem hfk, Option.map_some] at this
    exact Option.some.inj this
  rw [hag] at hxk
  simp only at hxk
  have hys := DataW.agg.inj hxk
  have g0 := hf 0 f0 rfl; have g1 := hf 1 f1 rfl; have g2 := hf 2 f2 rfl
  have hy3 : ys.length = 3 := by simpa using hyl
  rw [List.getElem?_eq_getElem (show 0 < ys.length by omega), t0, o0, cellsIntS.1] at g0
  rw [List.getElem?_eq_getElem (show 1 < ys.length by omega), t1, o1, cellsIntS.2] at g1
  rw [List.getElem?_eq_getElem (show 2 < ys.length by omega), t2, o2, cellsIntS.2] at g2
  obtain ⟨n0, c0, e0, -⟩ := DataW.trod_int Tryd.underlying3 g0
  obtain ⟨s1, c1, e1, -⟩ := DataW.trod_string Tryd.underlying9 g1
  obtain ⟨s2, c2, e2, -⟩ := DataW.trod_string Tryd.underlying9 g2
  have y0 := congrArg (·[0]?) hys; have y1 := congrArg (·[1]?) hys; have y2 := congrArg (·[2]?) hys
  simp only [List.getElem?_map, List.getElem?_eq_getElem (show 0 < ys.length by omega), List.getElem?_eq_getElem (show 1 < ys.length by omega), List.getElem?_eq_getElem (show 2 < ys.length by omega), Option.map_some, e0, e1, e2, List.getElem?_cons_zero, List.getElem?_cons_succ, Option.some.injEq, DataW.lit.injEq, Lit.int.injEq, Lit.string.injEq, true_and] at y0 y1 y2
  have cell : ∀ j v, j < 3 → (((cs.toList.drop (k * 3)).take 3).drop j).take 1 = [v] → W.cell? ⟨0, k * 3 + j, none⟩ = some v := by
    intro j v hj hv
    have := one_at hv
    rw [List.getElem?_take, if_pos hj, List.getElem?_drop] at this
    rw [World.var?_cell hg hvar]; simpa using this
  have hk1 : formsL[k].1 = (k : Int) + 1 := by
    have key : ∀ j : Fin 15, (formsL[j.val]'(by simp [formsL])).1 = (j.val : Int) + 1 := by decide
    exact key ⟨k, hk⟩
  refine ⟨?_, ?_, ?_⟩
  · have := cell 0 _ (by omega) c0
    rw [y0, hk1] at this; exact this
  · have := cell 1 _ (by omega) c1
    have hw : wordF k = s1.data.toList := by unfold wordF; rw [List.getElem?_eq_getElem hfk]; exact y1.symm
    rw [hw]; exact this
  · have := cell 2 _ (by omega) c2
    have hw : argsF k = s2.data.toList := by unfold argsF; rw [List.getElem?_eq_getElem hfk]; exact y2.symm
    rw [hw]; exact this
end Go.Proofs.YtkmnacchiagipaaDoor
