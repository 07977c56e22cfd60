/- script (plain): steps and their lines. -/
import Derived.Lib.Strings
import Derived.Lib.SlTrimSet
import Derived.Test.YtkmnacchiagipaaDoorSlices
namespace Go.Proofs.YtkmnacchiagipaaDoor
open Go.RowKit

structure StepL where
  kind : Int
  dest : Int
  a : Int
  b : Int
  name : List UInt8
  deriving DecidableEq
def zeroS : StepL := ⟨0, 0, 0, 0, []⟩
def stepC (s : StepL) : List Value := [.int .i64 s.kind, .int .i64 s.dest, .int .i64 s.a, .int .i64 s.b, .string ⟨s.name.toArray⟩]
/-- the field that a letter names -/
def getF (s : StepL) (c : Int) : Int := if c = 116 then s.dest else if c = 97 then s.a else s.b
def setF (s : StepL) (c v : Int) : StepL := if c = 116 then { s with dest := v } else if c = 97 then { s with a := v } else { s with b := v }
def offF (c : Int) : Nat := if c = 116 then 1 else if c = 97 then 2 else 3
theorem getF_at (s : StepL) (c : Int) : (stepC s)[offF c]? = some (.int .i64 (getF s c)) := by
  unfold getF offF stepC
  split
  · rfl
  · split <;> rfl
theorem setF_at (s : StepL) (c v : Int) : (stepC s).set (offF c) (.int .i64 v) = stepC (setF s c v) := by
  unfold setF offF stepC
  split
  · rfl
  · split <;> rfl
theorem offF_lt (c : Int) : offF c < 5 := by
  unfold offF
  split
  · omega
  · split <;> omega
/-- the forms: a kind, its word, what stands behind it -/
def formsL : List (Int × List UInt8 × List UInt8) := [
  (1, [108, 111, 97, 100], [116, 110]), (2, [117, 110, 105, 111, 110], [116, 97, 98]), (3, [99, 111, 110, 99, 97, 116], [116, 97, 98]), (4, [115, 116, 97, 114], [116, 97]), (5, [105, 110, 118, 101, 114, 116], [116, 97]),
  (6, [114, 101, 97, 100, 115], [116, 97]), (7, [119, 114, 105, 116, 101, 115], [116, 97]), (8, [114, 101, 118, 101, 114, 115, 101], [116, 97]), (9, [99, 111, 109, 112, 111, 115, 101], [116, 97, 98]), (10, [116, 114, 105, 109], [116, 97]),
  (11, [115, 111, 114, 116], [116, 97]), (12, [114, 101, 109, 111, 118, 101], [116, 97]), (13, [99, 101, 114, 116, 97, 105, 110], [116, 97]), (14, [108, 101, 97, 115, 116], [116, 97]), (15, [115, 97, 118, 101], [97, 110])]
def wordF (k : Nat) : List UInt8 := ((formsL[k]?).map (·.2.1)).getD []
def argsF (k : Nat) : List UInt8 := ((formsL[k]?).map (·.2.2)).getD []
def nameCut : List UInt8 := [97, 98, 99, 100, 101, 102, 103, 104, 105, 106, 107, 108, 109, 110, 111, 112, 113, 114, 115, 116, 117, 118, 119, 120, 121, 122, 48, 49, 50, 51, 52, 53, 54, 55, 56, 57, 95]
/-- may it be a name? -/
def nameB (s : List UInt8) : Bool := decide (1 ≤ s.length ∧ s.length ≤ 12) && (match s with | [] => false | c :: _ => decide (c.toNat < 48) || decide (57 < c.toNat)) && (Lib.trimS s nameCut == [])
/-- what is shown of the letters of a form -/
def shownA (s : StepL) : List UInt8 → List UInt8 → StepL → Int ⊕ (List UInt8 × StepL)
  | [], line, rest => .inr (line, rest)
  | c :: cs, line, rest =>
    if c = 110 then (if nameB s.name = true then shownA s cs (line ++ ([32] ++ s.name)) { rest with name := [] } else .inl 9)
    else if getF s c.toNat < 0 ∨ 25 < getF s c.toNat then .inl 2
    else shownA s cs (line ++ [32, UInt8.ofNat (97 + (getF s c.toNat).toNat)]) (setF rest c.toNat 0)
def endA : Int ⊕ (List UInt8 × StepL) → Int ⊕ List UInt8
  | .inl e => .inl e
  | .inr (line, rest) => if rest = zeroS then .inr (line ++ [10]) else .inl 3
/-- a step's line, or what is wrong -/
def shownS (s : StepL) : Int ⊕ List UInt8 :=
  if s.kind < 1 ∨ 15 < s.kind then .inl 14 else endA (shownA s (argsF (s.kind - 1).toNat) (wordF (s.kind - 1).toNat) { s with kind := 0 })
end Go.Proofs.YtkmnacchiagipaaDoor
