/-
  DERIVED. GIVEN WITH THE SEED: THE CARDS: each row of YtkmnacchiagipaaDoorRows.lean that lists a variable, with what it lists TIED to the program's text (the seventh form; the later family's looks); each row that meets fmt, with fmt's text TOLD by the authors' own Lean function (tested against real Go, not proved from fmt's source: count such statements apart). THE CARD IS WHAT COUNTS. Prove the row's statement (the work); the ties are given (YtkmnacchiagipaaDoorTie.lean); close each card by the builder's one call (the guide's Derived/Test/ToyasCard.lean, 'card_holds'). Laid BY PROGRAM, IN A SANDBOX (cutbox-door.mjs). By AI agents, Wed Nov 11 2026. No macro, syntax, notation, axiom, sorry.
-/
import Derived.Test.YtkmnacchiagipaaDoorRows
import GoSem.ClaimSeven
namespace Go.Proofs.YtkmnacchiagipaaDoor
namespace Rows

/-- THE TIED CARD OF 'tropicakeep.WeightBack'. -/
def weightBackCard : Claim7 := { stood := { row := weightBackRow, standIns := [], harness := (true, "a2412f078668e2fec1ff71013b341f8e8a1510b1ed556c7072e5dc8b2badcec6"), looks := true }, kinds := [], alts := [], laidByText := true, laidKinds := [.data, .data, .data, .data, .sentinel, .sentinel, .pinned], laidTests := true, laidLooks := .later }
def WeightBackCardSaid : Prop := Claim7.holds Tryd.pinned (.plain (OpenSpec.ofChange weightBackSpec)) weightBackCard

/-- THE TIED CARD OF 'tropicakeep.NamesBack'. -/
def namesBackCard : Claim7 := { stood := { row := namesBackRow, standIns := [], harness := (true, "a2412f078668e2fec1ff71013b341f8e8a1510b1ed556c7072e5dc8b2badcec6"), looks := true }, kinds := [], alts := [], laidByText := true, laidKinds := [.data, .data, .data, .sentinel, .sentinel], laidTests := true, laidLooks := .later }
def NamesBackCardSaid : Prop := Claim7.holds Tryd.pinned (.plain (OpenSpec.ofChange namesBackSpec)) namesBackCard

/-- THE TIED CARD OF 'tropicakeep.PaperBack'. -/
def paperBackCard : Claim7 := { stood := { row := paperBackRow, standIns := [], harness := (true, "a2412f078668e2fec1ff71013b341f8e8a1510b1ed556c7072e5dc8b2badcec6"), looks := true }, kinds := [], alts := [], laidByText := true, laidKinds := [.data, .data, .data, .data, .sentinel, .sentinel, .pinned], laidTests := true, laidLooks := .later }
def PaperBackCardSaid : Prop := Claim7.holds Tryd.pinned (.plain (OpenSpec.ofChange paperBackSpec)) paperBackCard

/-- THE TIED CARD OF 'tropicakeep.ScriptBack'. -/
def scriptBackCard : Claim7 := { stood := { row := scriptBackRow, standIns := [], harness := (true, "a2412f078668e2fec1ff71013b341f8e8a1510b1ed556c7072e5dc8b2badcec6"), looks := true }, kinds := [], alts := [], laidByText := true, laidKinds := [.data, .data, .pinned], laidTests := true, laidLooks := .later }
def ScriptBackCardSaid : Prop := Claim7.holds Tryd.pinned (.plain (OpenSpec.ofChange scriptBackSpec)) scriptBackCard

/-- THE TIED CARD OF 'tropicakeep.CertainKeeps'. -/
def certainKeepsCard : Claim7 := { stood := { row := certainKeepsRow, standIns := [], harness := (true, "a2412f078668e2fec1ff71013b341f8e8a1510b1ed556c7072e5dc8b2badcec6"), looks := true }, kinds := [], alts := [], laidByText := true, laidKinds := [.data, .data, .data], laidTests := true, laidLooks := .later }
def CertainKeepsCardSaid : Prop := Claim7.holds Tryd.pinned (.plain (OpenSpec.ofChange certainKeepsSpec)) certainKeepsCard

/-- THE TIED CARD OF 'tropicakeep.CertainStays'. -/
def certainStaysCard : Claim7 := { stood := { row := certainStaysRow, standIns := [], harness := (true, "a2412f078668e2fec1ff71013b341f8e8a1510b1ed556c7072e5dc8b2badcec6"), looks := true }, kinds := [], alts := [], laidByText := true, laidKinds := [.data, .data, .data], laidTests := true, laidLooks := .later }
def CertainStaysCardSaid : Prop := Claim7.holds Tryd.pinned (.plain (OpenSpec.ofChange certainStaysSpec)) certainStaysCard

/-- THE TIED CARD OF 'tropicakeep.CertainAll'. -/
def certainAllCard : Claim7 := { stood := { row := certainAllRow, standIns := [], harness := (true, "a2412f078668e2fec1ff71013b341f8e8a1510b1ed556c7072e5dc8b2badcec6"), looks := true }, kinds := [], alts := [], laidByText := true, laidKinds := [.data, .data, .data], laidTests := true, laidLooks := .later }
def CertainAllCardSaid : Prop := Claim7.holds Tryd.pinned (.plain (OpenSpec.ofChange certainAllSpec)) certainAllCard

/-- THE SECOND FORM's CARD OF 'tropicakeep.WeightBack'. -/
def weightBackUptoCard : Claim7 := { stood := { row := weightBackUptoRow, standIns := [], harness := (true, "a2412f078668e2fec1ff71013b341f8e8a1510b1ed556c7072e5dc8b2badcec6"), looks := true }, kinds := [], alts := [], laidByText := true, laidKinds := [.data, .data, .data, .data, .sentinel, .sentinel, .pinned], laidTests := true, laidLooks := .later }
def WeightBackUptoCardSaid : Prop := Claim7.holds Tryd.pinned (.plain (OpenSpec.upto weightBackSpec)) weightBackUptoCard

/-- THE SECOND FORM's CARD OF 'tropicakeep.NamesBack'. -/
def namesBackUptoCard : Claim7 := { stood := { row := namesBackUptoRow, standIns := [], harness := (true, "a2412f078668e2fec1ff71013b341f8e8a1510b1ed556c7072e5dc8b2badcec6"), looks := true }, kinds := [], alts := [], laidByText := true, laidKinds := [.data, .data, .data, .sentinel, .sentinel], laidTests := true, laidLooks := .later }
def NamesBackUptoCardSaid : Prop := Claim7.holds Tryd.pinned (.plain (OpenSpec.upto namesBackSpec)) namesBackUptoCard

/-- THE SECOND FORM's CARD OF 'tropicakeep.PaperBack'. -/
def paperBackUptoCard : Claim7 := { stood := { row := paperBackUptoRow, standIns := [], harness := (true, "a2412f078668e2fec1ff71013b341f8e8a1510b1ed556c7072e5dc8b2badcec6"), looks := true }, kinds := [], alts := [], laidByText := true, laidKinds := [.data, .data, .data, .data, .sentinel, .sentinel, .pinned], laidTests := true, laidLooks := .later }
def PaperBackUptoCardSaid : Prop := Claim7.holds Tryd.pinned (.plain (OpenSpec.upto paperBackSpec)) paperBackUptoCard

/-- THE SECOND FORM's CARD OF 'tropicakeep.ScriptBack'. -/
def scriptBackUptoCard : Claim7 := { stood := { row := scriptBackUptoRow, standIns := [], harness := (true, "a2412f078668e2fec1ff71013b341f8e8a1510b1ed556c7072e5dc8b2badcec6"), looks := true }, kinds := [], alts := [], laidByText := true, laidKinds := [.data, .data, .pinned], laidTests := true, laidLooks := .later }
def ScriptBackUptoCardSaid : Prop := Claim7.holds Tryd.pinned (.plain (OpenSpec.upto scriptBackSpec)) scriptBackUptoCard

/-- THE SECOND FORM's CARD OF 'tropicakeep.CertainKeeps'. -/
def certainKeepsUptoCard : Claim7 := { stood := { row := certainKeepsUptoRow, standIns := [], harness := (true, "a2412f078668e2fec1ff71013b341f8e8a1510b1ed556c7072e5dc8b2badcec6"), looks := true }, kinds := [], alts := [], laidByText := true, laidKinds := [.data, .data, .data], laidTests := true, laidLooks := .later }
def CertainKeepsUptoCardSaid : Prop := Claim7.holds Tryd.pinned (.plain (OpenSpec.upto certainKeepsSpec)) certainKeepsUptoCard

/-- THE SECOND FORM's CARD OF 'tropicakeep.CertainStays'. -/
def certainStaysUptoCard : Claim7 := { stood := { row := certainStaysUptoRow, standIns := [], harness := (true, "a2412f078668e2fec1ff71013b341f8e8a1510b1ed556c7072e5dc8b2badcec6"), looks := true }, kinds := [], alts := [], laidByText := true, laidKinds := [.data, .data, .data], laidTests := true, laidLooks := .later }
def CertainStaysUptoCardSaid : Prop := Claim7.holds Tryd.pinned (.plain (OpenSpec.upto certainStaysSpec)) certainStaysUptoCard

/-- THE SECOND FORM's CARD OF 'tropicakeep.CertainAll'. -/
def certainAllUptoCard : Claim7 := { stood := { row := certainAllUptoRow, standIns := [], harness := (true, "a2412f078668e2fec1ff71013b341f8e8a1510b1ed556c7072e5dc8b2badcec6"), looks := true }, kinds := [], alts := [], laidByText := true, laidKinds := [.data, .data, .data], laidTests := true, laidLooks := .later }
def CertainAllUptoCardSaid : Prop := Claim7.holds Tryd.pinned (.plain (OpenSpec.upto certainAllSpec)) certainAllUptoCard
end Rows
end Go.Proofs.YtkmnacchiagipaaDoor
