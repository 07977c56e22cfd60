/- script.forms as one value; a line's words as a step (plain). -/
import Derived.Test.YtkmnacchiagipaaDoorScriptShown
import Derived.Test.YtkmnacchiagipaaDoorPaperRead
namespace Go.Proofs.YtkmnacchiagipaaDoor
open Go.RowKit

/-- the cells of the table -/
def formsC : Array Value := ((List.range 15).flatMap fun (k : Nat) => [Value.int .i64 ((k : Int) + 1), Value.string ⟨(wordF k).toArray⟩, Value.string ⟨(argsF k).toArray⟩]).toArray
theorem formsC_size : formsC.size = 45 := by kernel_rfl
theorem formsC_at (k : Nat) (h : k < 15) : formsC[k * 3]? = some (.int .i64 ((k : Int) + 1)) ∧ formsC[k * 3 + 1]? = some (.string ⟨(wordF k).toArray⟩) ∧ formsC[k * 3 + 2]? = some (.string ⟨(argsF k).toArray⟩) := by
  rcases (by omega : k = 0 ∨ k = 1 ∨ k = 2 ∨ k = 3 ∨ k = 4 ∨ k = 5 ∨ k = 6 ∨ k = 7 ∨ k = 8 ∨ k = 9 ∨ k = 10 ∨ k = 11 ∨ k = 12 ∨ k = 13 ∨ k = 14) with rfl | rfl | rfl | rfl | rfl | rfl | rfl | rfl | rfl | rfl | rfl | rfl | rfl | rfl | rfl <;> exact ⟨rfl, rfl, rfl⟩
def FormsA (W : World) : Prop := ∃ t fr, W.heap[(0 : Nat)]? = some (.cells formsC t fr)
theorem FormsA.below {w w' : World} (h : FormsA w) (hb : Below w.heap.size w w') : FormsA w' := by
  obtain ⟨t, fr, h⟩ := h
  exact ⟨t, fr, (hb.block _ (Array.getElem?_eq_some_iff.1 h).1).trans h⟩
theorem FormsA.forms {w : World} (h : FormsA w) : FormsP w := fun k hk => by
  obtain ⟨t, fr, h⟩ := h
  obtain ⟨h1, h2, h3⟩ := formsC_at k hk
  exact ⟨(cell_of_row w _ _ _ _ _ h).trans h1, (cell_of_row w _ _ _ _ _ h).trans h2, (cell_of_row w _ _ _ _ _ h).trans h3⟩
theorem formsA_of {W : World} {r : List (String × DataW Unit)} (h : laidMet Tryd.prog (("tropica/script.forms", Rows.laid_tropica_script_forms) :: r) W) : FormsA W := by
  have hf := forms_of h
  obtain ⟨ps, ⟨g', t', cs, fuel, p, q, hg', ht', hvar, hd, _, _⟩, _⟩ := h
  have hg : Tryd.prog.globalNamed "tropica/script.forms" = some 0 := by kernel_rfl
  have hty : (Tryd.prog.globals[(0 : Nat)]?).map (·.type) = some 177 := by kernel_rfl
  obtain rfl := Option.some.inj (hg.symm.trans hg')
  obtain rfl := Option.some.inj (hty.symm.trans ht')
  obtain ⟨xs, m, -, hx, hl, hxl, hi⟩ := DataW.trod_array Tryd.underlying177 hd
  have hc45 : Tryd.prog.cellsOf 177 = 45 := by kernel_rfl
  have hsz : cs.size = 45 := by rw [hc45] at hl; simpa using hl
  have hcs : cs = formsC := by
    refine Array.ext (by rw [hsz, formsC_size]) fun i h1 h2 => ?_
    have key : ∀ k j, k < 15 → j < 3 → cs[k * 3 + j]? = formsC[k * 3 + j]? := fun k j hk hj => by
      obtain ⟨a1, a2, a3⟩ := hf k hk
      obtain ⟨b1, b2, b3⟩ := formsC_at k hk
      rw [World.var?_cell hg hvar] at a1 a2 a3
      rcases (by omega : j = 0 ∨ j = 1 ∨ j = 2) with rfl | rfl | rfl
      · exact a1.trans b1.symm
      · exact a2.trans b2.symm
      · exact a3.trans b3.symm
    have := key (i / 3) (i % 3) (by omega) (by omega)
    rw [show i / 3 * 3 + i % 3 = i by omega] at this
    rw [Array.getElem?_eq_getElem h1, Array.getElem?_eq_getElem h2] at this
    exact Option.some.inj this
  subst hcs
  simp only [World.var?, hg, Option.bind_some] at hvar
  split at hvar
  · next c t fr heq => exact ⟨t, fr, by rw [heq, Option.some.inj hvar]⟩
  · cases hvar
theorem index_forms (k : Nat) (h : k < 15) (w : World) : (Instr.index 177 (.agg formsC) (.int .i64 k)).run Tryd.prog w = .ok (.agg #[.int .i64 ((k : Int) + 1), .string ⟨(wordF k).toArray⟩, .string ⟨(argsF k).toArray⟩]) w := by
  rcases (by omega : k = 0 ∨ k = 1 ∨ k = 2 ∨ k = 3 ∨ k = 4 ∨ k = 5 ∨ k = 6 ∨ k = 7 ∨ k = 8 ∨ k = 9 ∨ k = 10 ∨ k = 11 ∨ k = 12 ∨ k = 13 ∨ k = 14) with rfl | rfl | rfl | rfl | rfl | rfl | rfl | rfl | rfl | rfl | rfl | rfl | rfl | rfl | rfl <;> kernel_rfl
/-! ### what a line's words say -/
def putS (s : StepL) (c : UInt8) (w : List UInt8) : StepL := if c = 110 then { s with name := w } else if w.length = 1 then setF s c.toNat (((w.getD 0 0).toNat : Int) - 97) else setF s c.toNat (-1)
def fillS (s : StepL) : List UInt8 → List (List UInt8) → StepL
  | [], _ => s
  | c :: cs, ws => fillS (putS s c (ws.getD 0 [])) cs (ws.drop 1)
def isF (ws : List (List UInt8)) (k : Nat) : Bool := decide (wordF k = ws.getD 0 [] ∧ ws.length = (argsF k).length + 1)
def stepW (ws : List (List UInt8)) : StepL := match (List.range 15).find? (isF ws) with
  | some k => fillS ⟨(k : Int) + 1, 0, 0, 0, []⟩ (argsF k) (ws.drop 1)
  | none => zeroS
def stepOf (line : List UInt8) : StepL := stepW (Lib.split (Lib.trimSuffix line [10]) [32])
theorem stepW_at {ws : List (List UInt8)} {k : Nat} (hk : k < 15) (h : isF ws k = true) (hn : ∀ j, j < k → isF ws j = false) : stepW ws = fillS ⟨(k : Int) + 1, 0, 0, 0, []⟩ (argsF k) (ws.drop 1) := by
  unfold stepW
  have : (List.range 15).find? (isF ws) = some k := List.find?_range_eq_some.2 ⟨h, by simpa using hk, fun j hj => by simp [hn j hj]⟩
  rw [this]
theorem stepW_none {ws : List (List UInt8)} (hn : ∀ j, j < 15 → isF ws j = false) : stepW ws = zeroS := by
  unfold stepW
  have : (List.range 15).find? (isF ws) = none := List.find?_range_eq_none.2 (fun j hj => by simp [hn j hj])
  rw [this]
theorem putS_name (s : StepL) (c : UInt8) (w : List UInt8) : (putS s c w).name = s.name ∨ (putS s c w).name = w := by
  unfold putS
  split
  · exact .inr rfl
  · split <;> (unfold setF; repeat' split) <;> exact .inl rfl
theorem fillS_name (N : Nat) (ags : List UInt8) : ∀ (s : StepL) (ws : List (List UInt8)), s.name.length ≤ N → (∀ y ∈ ws, y.length ≤ N) → (fillS s ags ws).name.length ≤ N := by
  induction ags with
  | nil => intro s ws hs _; exact hs
  | cons c cs ih =>
    intro s ws hs hw
    refine ih _ _ ?_ fun y hy => hw y (List.mem_of_mem_drop hy)
    rcases putS_name s c (ws.getD 0 []) with h | h
    · rw [h]; exact hs
    · rw [h]
      cases ws with
      | nil => simp
      | cons y r => exact hw y (by simp)
theorem stepW_name (N : Nat) (ws : List (List UInt8)) (hw : ∀ y ∈ ws, y.length ≤ N) : (stepW ws).name.length ≤ N := by
  unfold stepW
  split
  · exact fillS_name N _ _ _ (by simp) fun y hy => hw y (List.mem_of_mem_drop hy)
  · simp [zeroS]
theorem fillS_kind (ags : List UInt8) : ∀ (s : StepL) (ws : List (List UInt8)), (fillS s ags ws).kind = s.kind := by
  induction ags with
  | nil => intro s ws; rfl
  | cons c cs ih =>
    intro s ws
    rw [fillS, ih]
    unfold putS
    split
    · rfl
    · split <;> (unfold setF; repeat' split) <;> rfl
end Go.Proofs.YtkmnacchiagipaaDoor
