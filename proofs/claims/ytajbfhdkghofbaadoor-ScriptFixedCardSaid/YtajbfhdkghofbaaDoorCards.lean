/-
  DERIVED. GIVEN WITH THE SEED: THE CARDS: each row of YtajbfhdkghofbaaDoorRows.lean that lists a variable, with what it lists TIED to the program's text (the seventh form; the later family's looks); each row that meets fmt, with fmt's text TOLD by the authors' own Lean function (tested against real Go, not proved from fmt's source: count such statements apart). THE CARD IS WHAT COUNTS. Prove the row's statement (the work); the ties are given (YtajbfhdkghofbaaDoorTie.lean); close each card by the builder's one call (the guide's Derived/Test/ToyasCard.lean, 'card_holds'). Laid BY PROGRAM, IN A SANDBOX (cutbox-door.mjs). By AI agents, Wed Nov 11 2026. No macro, syntax, notation, axiom, sorry.
-/
import Derived.Test.YtajbfhdkghofbaaDoorRows
import GoSem.ClaimSeven
namespace Go.Proofs.YtajbfhdkghofbaaDoor
namespace Rows

/-- THE TIED CARD OF 'tropicakeep.WeightBack'. -/
def weightBackCard : Claim7 := { stood := { row := weightBackRow, standIns := [], harness := (true, "2d5bce19589f9a4bec2630897428467537d307f27a43c76bf1ecbcfe31b4f13c"), looks := true }, kinds := [], alts := [], laidByText := true, laidKinds := [.data, .data, .data, .data, .sentinel, .sentinel, .pinned], laidTests := true, laidLooks := .later }
def WeightBackCardSaid : Prop := Claim7.holds Tryd.pinned (.plain (OpenSpec.ofChange weightBackSpec)) weightBackCard

/-- THE TIED CARD OF 'tropicakeep.WeightFixed'. -/
def weightFixedCard : Claim7 := { stood := { row := weightFixedRow, standIns := [], harness := (true, "2d5bce19589f9a4bec2630897428467537d307f27a43c76bf1ecbcfe31b4f13c"), looks := true }, kinds := [], alts := [], laidByText := true, laidKinds := [.data, .data, .data, .data, .sentinel, .sentinel, .pinned], laidTests := true, laidLooks := .later }
def WeightFixedCardSaid : Prop := Claim7.holds Tryd.pinned (.plain (OpenSpec.ofChange weightFixedSpec)) weightFixedCard

/-- THE TIED CARD OF 'tropicakeep.PackedBack'. -/
def packedBackCard : Claim7 := { stood := { row := packedBackRow, standIns := [], harness := (true, "2d5bce19589f9a4bec2630897428467537d307f27a43c76bf1ecbcfe31b4f13c"), looks := true }, kinds := [], alts := [], laidByText := true, laidKinds := [.data, .data, .data], laidTests := true, laidLooks := .later }
def PackedBackCardSaid : Prop := Claim7.holds Tryd.pinned (.plain (OpenSpec.ofChange packedBackSpec)) packedBackCard

/-- THE TIED CARD OF 'tropicakeep.NamesBack'. -/
def namesBackCard : Claim7 := { stood := { row := namesBackRow, standIns := [], harness := (true, "2d5bce19589f9a4bec2630897428467537d307f27a43c76bf1ecbcfe31b4f13c"), looks := true }, kinds := [], alts := [], laidByText := true, laidKinds := [.data, .data, .data, .sentinel, .sentinel], laidTests := true, laidLooks := .later }
def NamesBackCardSaid : Prop := Claim7.holds Tryd.pinned (.plain (OpenSpec.ofChange namesBackSpec)) namesBackCard

/-- THE TIED CARD OF 'tropicakeep.NamesFixed'. -/
def namesFixedCard : Claim7 := { stood := { row := namesFixedRow, standIns := [], harness := (true, "2d5bce19589f9a4bec2630897428467537d307f27a43c76bf1ecbcfe31b4f13c"), looks := true }, kinds := [], alts := [], laidByText := true, laidKinds := [.data, .data, .data, .sentinel, .sentinel], laidTests := true, laidLooks := .later }
def NamesFixedCardSaid : Prop := Claim7.holds Tryd.pinned (.plain (OpenSpec.ofChange namesFixedSpec)) namesFixedCard

/-- THE TIED CARD OF 'tropicakeep.PaperBack'. -/
def paperBackCard : Claim7 := { stood := { row := paperBackRow, standIns := [], harness := (true, "2d5bce19589f9a4bec2630897428467537d307f27a43c76bf1ecbcfe31b4f13c"), looks := true }, kinds := [], alts := [], laidByText := true, laidKinds := [.data, .data, .data, .data, .sentinel, .sentinel, .pinned], laidTests := true, laidLooks := .later }
def PaperBackCardSaid : Prop := Claim7.holds Tryd.pinned (.plain (OpenSpec.ofChange paperBackSpec)) paperBackCard

/-- THE TIED CARD OF 'tropicakeep.PaperFixed'. -/
def paperFixedCard : Claim7 := { stood := { row := paperFixedRow, standIns := [], harness := (true, "2d5bce19589f9a4bec2630897428467537d307f27a43c76bf1ecbcfe31b4f13c"), looks := true }, kinds := [], alts := [], laidByText := true, laidKinds := [.data, .data, .data, .data, .sentinel, .sentinel, .pinned], laidTests := true, laidLooks := .later }
def PaperFixedCardSaid : Prop := Claim7.holds Tryd.pinned (.plain (OpenSpec.ofChange paperFixedSpec)) paperFixedCard

/-- THE TIED CARD OF 'tropicakeep.ScriptBack'. -/
def scriptBackCard : Claim7 := { stood := { row := scriptBackRow, standIns := [], harness := (true, "2d5bce19589f9a4bec2630897428467537d307f27a43c76bf1ecbcfe31b4f13c"), looks := true }, kinds := [], alts := [], laidByText := true, laidKinds := [.data, .data, .pinned], laidTests := true, laidLooks := .later }
def ScriptBackCardSaid : Prop := Claim7.holds Tryd.pinned (.plain (OpenSpec.ofChange scriptBackSpec)) scriptBackCard

/-- THE TIED CARD OF 'tropicakeep.ScriptFixed'. -/
def scriptFixedCard : Claim7 := { stood := { row := scriptFixedRow, standIns := [], harness := (true, "2d5bce19589f9a4bec2630897428467537d307f27a43c76bf1ecbcfe31b4f13c"), looks := true }, kinds := [], alts := [], laidByText := true, laidKinds := [.data, .data, .pinned], laidTests := true, laidLooks := .later }
def ScriptFixedCardSaid : Prop := Claim7.holds Tryd.pinned (.plain (OpenSpec.ofChange scriptFixedSpec)) scriptFixedCard

/-- THE SECOND FORM's CARD OF 'tropicakeep.WeightBack'. -/
def weightBackUptoCard : Claim7 := { stood := { row := weightBackUptoRow, standIns := [], harness := (true, "2d5bce19589f9a4bec2630897428467537d307f27a43c76bf1ecbcfe31b4f13c"), looks := true }, kinds := [], alts := [], laidByText := true, laidKinds := [.data, .data, .data, .data, .sentinel, .sentinel, .pinned], laidTests := true, laidLooks := .later }
def WeightBackUptoCardSaid : Prop := Claim7.holds Tryd.pinned (.plain (OpenSpec.upto weightBackSpec)) weightBackUptoCard

/-- THE SECOND FORM's CARD OF 'tropicakeep.WeightFixed'. -/
def weightFixedUptoCard : Claim7 := { stood := { row := weightFixedUptoRow, standIns := [], harness := (true, "2d5bce19589f9a4bec2630897428467537d307f27a43c76bf1ecbcfe31b4f13c"), looks := true }, kinds := [], alts := [], laidByText := true, laidKinds := [.data, .data, .data, .data, .sentinel, .sentinel, .pinned], laidTests := true, laidLooks := .later }
def WeightFixedUptoCardSaid : Prop := Claim7.holds Tryd.pinned (.plain (OpenSpec.upto weightFixedSpec)) weightFixedUptoCard

/-- THE SECOND FORM's CARD OF 'tropicakeep.PackedBack'. -/
def packedBackUptoCard : Claim7 := { stood := { row := packedBackUptoRow, standIns := [], harness := (true, "2d5bce19589f9a4bec2630897428467537d307f27a43c76bf1ecbcfe31b4f13c"), looks := true }, kinds := [], alts := [], laidByText := true, laidKinds := [.data, .data, .data], laidTests := true, laidLooks := .later }
def PackedBackUptoCardSaid : Prop := Claim7.holds Tryd.pinned (.plain (OpenSpec.upto packedBackSpec)) packedBackUptoCard

/-- THE SECOND FORM's CARD OF 'tropicakeep.NamesBack'. -/
def namesBackUptoCard : Claim7 := { stood := { row := namesBackUptoRow, standIns := [], harness := (true, "2d5bce19589f9a4bec2630897428467537d307f27a43c76bf1ecbcfe31b4f13c"), looks := true }, kinds := [], alts := [], laidByText := true, laidKinds := [.data, .data, .data, .sentinel, .sentinel], laidTests := true, laidLooks := .later }
def NamesBackUptoCardSaid : Prop := Claim7.holds Tryd.pinned (.plain (OpenSpec.upto namesBackSpec)) namesBackUptoCard

/-- THE SECOND FORM's CARD OF 'tropicakeep.NamesFixed'. -/
def namesFixedUptoCard : Claim7 := { stood := { row := namesFixedUptoRow, standIns := [], harness := (true, "2d5bce19589f9a4bec2630897428467537d307f27a43c76bf1ecbcfe31b4f13c"), looks := true }, kinds := [], alts := [], laidByText := true, laidKinds := [.data, .data, .data, .sentinel, .sentinel], laidTests := true, laidLooks := .later }
def NamesFixedUptoCardSaid : Prop := Claim7.holds Tryd.pinned (.plain (OpenSpec.upto namesFixedSpec)) namesFixedUptoCard

/-- THE SECOND FORM's CARD OF 'tropicakeep.PaperBack'. -/
def paperBackUptoCard : Claim7 := { stood := { row := paperBackUptoRow, standIns := [], harness := (true, "2d5bce19589f9a4bec2630897428467537d307f27a43c76bf1ecbcfe31b4f13c"), looks := true }, kinds := [], alts := [], laidByText := true, laidKinds := [.data, .data, .data, .data, .sentinel, .sentinel, .pinned], laidTests := true, laidLooks := .later }
def PaperBackUptoCardSaid : Prop := Claim7.holds Tryd.pinned (.plain (OpenSpec.upto paperBackSpec)) paperBackUptoCard

/-- THE SECOND FORM's CARD OF 'tropicakeep.PaperFixed'. -/
def paperFixedUptoCard : Claim7 := { stood := { row := paperFixedUptoRow, standIns := [], harness := (true, "2d5bce19589f9a4bec2630897428467537d307f27a43c76bf1ecbcfe31b4f13c"), looks := true }, kinds := [], alts := [], laidByText := true, laidKinds := [.data, .data, .data, .data, .sentinel, .sentinel, .pinned], laidTests := true, laidLooks := .later }
def PaperFixedUptoCardSaid : Prop := Claim7.holds Tryd.pinned (.plain (OpenSpec.upto paperFixedSpec)) paperFixedUptoCard

/-- THE SECOND FORM's CARD OF 'tropicakeep.ScriptBack'. -/
def scriptBackUptoCard : Claim7 := { stood := { row := scriptBackUptoRow, standIns := [], harness := (true, "2d5bce19589f9a4bec2630897428467537d307f27a43c76bf1ecbcfe31b4f13c"), looks := true }, kinds := [], alts := [], laidByText := true, laidKinds := [.data, .data, .pinned], laidTests := true, laidLooks := .later }
def ScriptBackUptoCardSaid : Prop := Claim7.holds Tryd.pinned (.plain (OpenSpec.upto scriptBackSpec)) scriptBackUptoCard

/-- THE SECOND FORM's CARD OF 'tropicakeep.ScriptFixed'. -/
def scriptFixedUptoCard : Claim7 := { stood := { row := scriptFixedUptoRow, standIns := [], harness := (true, "2d5bce19589f9a4bec2630897428467537d307f27a43c76bf1ecbcfe31b4f13c"), looks := true }, kinds := [], alts := [], laidByText := true, laidKinds := [.data, .data, .pinned], laidTests := true, laidLooks := .later }
def ScriptFixedUptoCardSaid : Prop := Claim7.holds Tryd.pinned (.plain (OpenSpec.upto scriptFixedSpec)) scriptFixedUptoCard
end Rows
end Go.Proofs.YtajbfhdkghofbaaDoor
