/- What reading texts uses of Go's library: strings.TrimSuffix, Cut, Split, strconv.Atoi at any string; what is asked of the library's variables. -/
import Derived.Test.YtkmnacchiagipaaDoorWeightText
import Derived.Test.YtkmnacchiagipaaDoorLayT
import Derived.Stop.LaidErr
import Derived.Shelf.Strings.SplitShaped
import Derived.Shelf.Strconv.AtoiErr
import Derived.Shelf.Strconv.AtoiAll
import Derived.Shelf.Strings.Prefix
import Derived.Shelf.Strings.Cut
namespace Go.Proofs.YtkmnacchiagipaaDoor
open Go.RowKit

def MaxP (W : World) : Prop := ∃ m, W.cell? ⟨3, 0, none⟩ = some (.int .i64 m)
def ErrAt (g : Nat) (W : World) : Prop := ∃ te pe, W.cell? ⟨g, 0, none⟩ = some (.iface te pe)
structure TextW (W : World) : Prop where
  tab : TabP W
  max : MaxP W
  syn : ErrAt 1 W
  rng : ErrAt 2 W
theorem MaxP.below {w w' : World} (h : MaxP w) (hb : Below w.heap.size w w') : MaxP w' := by
  obtain ⟨m, hm⟩ := h; exact ⟨m, (hb.cell (World.block_lt_of_cell? _ _ hm)).trans hm⟩
theorem ErrAt.below {g : Nat} {w w' : World} (h : ErrAt g w) (hb : Below w.heap.size w w') : ErrAt g w' := by
  obtain ⟨a, b, hm⟩ := h; exact ⟨a, b, (hb.cell (World.block_lt_of_cell? _ _ hm)).trans hm⟩
theorem TextW.below {w w' : World} (h : TextW w) (hb : Below w.heap.size w w') : TextW w' := ⟨h.tab.below hb, h.max.below hb, h.syn.below hb, h.rng.below hb⟩
theorem star_err : "*" ++ "errors.errorString" = "*errors.errorString" := by decide
theorem row_err (u : TypeId) (h : Tryd.prog.typeName? 3 u = some "*errors.errorString") : u = 283 :=
  typeName_ptr_named (nm := "errors.errorString") (by rw [star_err]; kernel_rfl) (by kernel_rfl) (by decide) u (by rw [star_err]; exact h)
theorem err_range {r : List (String × DataW Unit)} {W : World} (h : laidMet Tryd.prog (("strconv.ErrRange", Rows.laid_strconv_ErrRange) :: r) W) : ErrAt 2 W := by
  obtain ⟨a, s, hv, -⟩ := laid_sentinel (g := 2) (ti := 83) (tp := 283) (te := 285) (ts := 9) h (by kernel_rfl) (by kernel_rfl) Tryd.underlying83 row_err Tryd.underlying283 Tryd.underlying285 rfl rfl Tryd.underlying9 (by kernel_rfl) (by kernel_rfl)
  exact ⟨_, _, by simpa using World.var?_cell (g := 2) (by kernel_rfl) hv 0⟩
theorem err_syntax {r : List (String × DataW Unit)} {W : World} (h : laidMet Tryd.prog (("strconv.ErrSyntax", Rows.laid_strconv_ErrSyntax) :: r) W) : ErrAt 1 W := by
  obtain ⟨a, s, hv, -⟩ := laid_sentinel (g := 1) (ti := 83) (tp := 283) (te := 285) (ts := 9) h (by kernel_rfl) (by kernel_rfl) Tryd.underlying83 row_err Tryd.underlying283 Tryd.underlying285 rfl rfl Tryd.underlying9 (by kernel_rfl) (by kernel_rfl)
  exact ⟨_, _, by simpa using World.var?_cell (g := 1) (by kernel_rfl) hv 0⟩
theorem max_of {W : World} (h : W.ShapedOpen Tryd.prog) : MaxP W := Tryd.laysM146.s1_3 W h
theorem textW_names {W : World} (h : laidMet Tryd.prog Rows.namesBackRow.laid W) (hs : W.ShapedOpen Tryd.prog) : TextW W :=
  ⟨tabP_of h, max_of hs, err_syntax h.tail.tail.tail.tail, err_range h.tail.tail.tail⟩
theorem textW_paper {W : World} (h : laidMet Tryd.prog Rows.paperBackRow.laid W) (hs : W.ShapedOpen Tryd.prog) : TextW W :=
  ⟨tabP_of h, max_of hs, err_syntax h.tail.tail.tail.tail.tail, err_range h.tail.tail.tail.tail⟩

theorem suffix_any (s : ByteArray) (hs : s.size ≤ 1000000) (w : World) : Calls Tryd.prog 42 #[.string s, .string ⟨#[10]⟩] w fun e w' => e = .returned (.string ⟨(Lib.trimSuffix s.data.toList [10]).toArray⟩) ∧ w' = w :=
  Any.strings_TrimSuffix Tryd.lays102 s ⟨#[10]⟩ w (by omega)
theorem cut_any (s : ByteArray) (hs : s.size ≤ 1000000) (w : World) (hm : MaxP w) : Calls Tryd.prog 41 #[.string s, .string ⟨#[32]⟩] w fun e w' => e = .returned (.tuple #[.string ⟨(Lib.cut s.data.toList [32]).1.toArray⟩, .string ⟨(Lib.cut s.data.toList [32]).2.1.toArray⟩, .bool (Lib.cut s.data.toList [32]).2.2]) ∧ Below w.heap.size w w' := by
  obtain ⟨m, hm⟩ := hm
  refine (Any.strings_Cut { Tryd.laysM145 with } s ⟨#[32]⟩ m w (by omega) hm).mono ?_
  rintro e w' ⟨rfl, n, rfl⟩
  exact ⟨rfl, rfl, rfl, rfl, Nat.le_refl _, fun _ _ => rfl⟩
/-- the words of a line, in a new block -/
theorem split_any (s : ByteArray) (hs : s.size ≤ 1000000) (w : World) (hm : MaxP w) : Calls Tryd.prog 87 #[.string s, .string ⟨#[32]⟩] w fun e w' => ∃ ws : List (List UInt8), ws = Lib.split s.data.toList [32] ∧ 0 < ws.length ∧ ws.length ≤ s.size + 1 ∧
    e = .returned (.slice (some ⟨w.heap.size, 0, none⟩) ws.length ws.length) ∧ w' = w.alloc (.cells (ws.map fun x => Value.string ⟨x.toArray⟩).toArray 9) := by
  obtain ⟨m, hm⟩ := hm
  refine (Any.strings_Split { Tryd.laysM146 with } (by kernel_rfl) s ⟨#[32]⟩ m w (by omega) hm (by decide)).mono ?_
  rintro e w' ⟨rfl, rfl⟩
  have hlen := Lib.splitB_all ⟨#[32]⟩ (by decide) 0 _ s rfl
  have hle := Lib.countB_le ⟨#[32]⟩ (by decide) s.size s (Nat.le_refl _)
  have hd := Lib.splitB_data ⟨#[32]⟩ 0 (Lib.countB s ⟨#[32]⟩) s
  have e1 : Lib.split s.data.toList [32] = (Lib.splitB ⟨#[32]⟩ 0 (Lib.countB s ⟨#[32]⟩) s).map (·.data.toList) := hd.symm
  refine ⟨_, rfl, ?_, ?_, ?_, ?_⟩
  · rw [e1, List.length_map, hlen]; omega
  · rw [e1, List.length_map, hlen]; omega
  · rw [e1, List.length_map, hlen]
  · rw [e1, List.map_map]; rfl

/-- what Atoi answers, as far as it must be known -/
def AtoiR (l : List UInt8) (v : Int) (ev : Value) : Prop :=
  (ev = .nilIface ∧ (l.length ≤ 18 → Lib.atoi l = some v)) ∨ ((∃ te pe, ev = .iface te pe) ∧ (l.length ≤ 18 → Lib.atoi l = none))
theorem atoi_any (s : ByteArray) (hs : s.size ≤ 1000000) (w : World) (ht : TextW w) : Calls Tryd.prog 35 #[.string s] w fun e w' => ∃ v ev, e = .returned (.tuple #[.int .i64 v, ev]) ∧ AtoiR s.data.toList v ev ∧ Below w.heap.size w w' := by
  have hsz : s.size = s.data.toList.length := Lib.size_eq s
  obtain ⟨a, b, hsyn⟩ := ht.syn
  obtain ⟨c, d, hrng⟩ := ht.rng
  by_cases hl : s.size ≤ 18
  · cases h : Lib.atoi s.data.toList with
    | some n =>
      refine (atoi_ok s n hl h w).mono ?_
      rintro e w' ⟨rfl, hb⟩
      exact ⟨n, _, rfl, .inl ⟨rfl, fun _ => h⟩, hb⟩
    | none =>
      refine (Any.strconv_Atoi_err Tryd.laysC172 s hl h _ w hsyn (.inr ⟨_, _, rfl⟩)).mono ?_
      rintro e w' ⟨N, rfl, -, -, hb⟩
      exact ⟨0, _, rfl, .inr ⟨⟨_, _, rfl⟩, fun _ => h⟩, hb⟩
  · cases h : Lib.atoiAll s.data.toList with
    | ok v =>
      refine (Any.strconv_Atoi_ok Tryd.laysC172 s (by omega) v h w).mono ?_
      rintro e w' ⟨rfl, hw⟩
      refine ⟨v, _, rfl, .inl ⟨rfl, fun h => absurd h (by omega)⟩, ?_⟩
      rcases hw with rfl | ⟨t, rfl⟩
      · exact Below.refl _ _
      · exact Lib.bytesWorld_below _ _ _
    | «syntax» =>
      refine (Any.strconv_Atoi_syntax Tryd.laysC172 s (by omega) h _ w hsyn (.inr ⟨_, _, rfl⟩)).mono ?_
      rintro e w' ⟨N, rfl, -, -, hb⟩
      exact ⟨0, _, rfl, .inr ⟨⟨_, _, rfl⟩, fun h => absurd h (by omega)⟩, hb⟩
    | range =>
      refine (Any.strconv_Atoi_range Tryd.laysC172 s (by omega) h _ w hrng (.inr ⟨_, _, rfl⟩)).mono ?_
      rintro e w' ⟨N, rfl, -, -, hb⟩
      exact ⟨_, _, rfl, .inr ⟨⟨_, _, rfl⟩, fun h => absurd h (by omega)⟩, hb⟩
end Go.Proofs.YtkmnacchiagipaaDoor
