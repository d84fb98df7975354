/-
  DERIVED. GIVEN WITH THE SEED: THE CARDS: each row of YtelgbndeeccblaaGreatDoorRows.lean that lists a variable, with what it lists TIED to the program's text (the seventh form; the later family's looks); each row that meets fmt, with fmt's text TOLD by the authors' own Lean function (tested against real Go, not proved from fmt's source: count such statements apart). THE CARD IS WHAT COUNTS. Prove the row's statement (the work); the ties are given (YtelgbndeeccblaaGreatDoorTie.lean); close each card by the builder's one call (the guide's Derived/Test/ToyasCard.lean, 'card_holds'). Laid BY PROGRAM, IN A SANDBOX (cutbox-door.mjs). By AI agents, Wed Nov 11 2026. No macro, syntax, notation, axiom, sorry.
-/
import Derived.Test.YtelgbndeeccblaaGreatDoorRows
import GoSem.ClaimSeven
namespace Go.Proofs.YtelgbndeeccblaaGreatDoor
namespace Rows

/-- THE TIED CARD OF 'laws.FnExactFormatProgram'. -/
def fnExactFormatProgramCard : Claim7 := { stood := { row := fnExactFormatProgramRow, standIns := [], harness := (true, "27f906be966daac923604d38161776af8c1e3f2c52495d63502964d92286946a"), looks := true }, kinds := [], alts := [], laidByText := true, laidKinds := [.data, .data, .data], laidTests := true, laidLooks := .later }
def FnExactFormatProgramCardSaid : Prop := Claim7.holds Tryz.pinned (.plain (OpenSpec.ofChange fnExactFormatProgramSpec)) fnExactFormatProgramCard

/-- THE TIED CARD OF 'laws.FnExactParseProgram'. -/
def fnExactParseProgramCard : Claim7 := { stood := { row := fnExactParseProgramRow, standIns := [], harness := (true, "27f906be966daac923604d38161776af8c1e3f2c52495d63502964d92286946a"), looks := true }, kinds := [], alts := [], laidByText := true, laidKinds := [.data, .data, .data, .data, .sentinel, .sentinel, .pinned], laidTests := true, laidLooks := .later }
def FnExactParseProgramCardSaid : Prop := Claim7.holds Tryz.pinned (.plain (OpenSpec.ofChange fnExactParseProgramSpec)) fnExactParseProgramCard

/-- THE TIED CARD OF 'laws.FnFormatExpr'. -/
def fnFormatExprCard : Claim7 := { stood := { row := fnFormatExprRow, standIns := [], harness := (true, "27f906be966daac923604d38161776af8c1e3f2c52495d63502964d92286946a"), looks := true }, kinds := [], alts := [], laidByText := true, laidKinds := [.data, .data, .data, .data, .sentinel, .sentinel, .pinned], laidTests := true, laidLooks := .later }
def FnFormatExprCardSaid : Prop := Claim7.holds Tryz.pinned (.plain (OpenSpec.ofChange fnFormatExprSpec)) fnFormatExprCard

/-- THE TIED CARD OF 'laws.FnParseExpr'. -/
def fnParseExprCard : Claim7 := { stood := { row := fnParseExprRow, standIns := [], harness := (true, "27f906be966daac923604d38161776af8c1e3f2c52495d63502964d92286946a"), looks := true }, kinds := [], alts := [], laidByText := true, laidKinds := [.data, .data, .data, .data, .sentinel, .sentinel, .pinned], laidTests := true, laidLooks := .later }
def FnParseExprCardSaid : Prop := Claim7.holds Tryz.pinned (.plain (OpenSpec.ofChange fnParseExprSpec)) fnParseExprCard

/-- THE TIED CARD OF 'laws.FnFormatProgramLines'. -/
def fnFormatProgramLinesCard : Claim7 := { stood := { row := fnFormatProgramLinesRow, standIns := [], harness := (true, "27f906be966daac923604d38161776af8c1e3f2c52495d63502964d92286946a"), looks := true }, kinds := [], alts := [], laidByText := true, laidKinds := [.data, .data, .data], laidTests := true, laidLooks := .later }
def FnFormatProgramLinesCardSaid : Prop := Claim7.holds Tryz.pinned (.plain (OpenSpec.ofChange fnFormatProgramLinesSpec)) fnFormatProgramLinesCard

/-- THE TIED CARD OF 'laws.FnFormatProgram'. -/
def fnFormatProgramCard : Claim7 := { stood := { row := fnFormatProgramRow, standIns := [], harness := (true, "27f906be966daac923604d38161776af8c1e3f2c52495d63502964d92286946a"), looks := true }, kinds := [], alts := [], laidByText := true, laidKinds := [.data, .data, .data, .data, .sentinel, .sentinel, .pinned], laidTests := true, laidLooks := .later }
def FnFormatProgramCardSaid : Prop := Claim7.holds Tryz.pinned (.plain (OpenSpec.ofChange fnFormatProgramSpec)) fnFormatProgramCard

/-- THE TIED CARD OF 'laws.FnParseProgram'. -/
def fnParseProgramCard : Claim7 := { stood := { row := fnParseProgramRow, standIns := [], harness := (true, "27f906be966daac923604d38161776af8c1e3f2c52495d63502964d92286946a"), looks := true }, kinds := [], alts := [], laidByText := true, laidKinds := [.data, .data, .data, .data, .sentinel, .sentinel, .pinned], laidTests := true, laidLooks := .later }
def FnParseProgramCardSaid : Prop := Claim7.holds Tryz.pinned (.plain (OpenSpec.ofChange fnParseProgramSpec)) fnParseProgramCard

/-- THE SECOND FORM's CARD OF 'laws.FnExactFormatProgram'. -/
def fnExactFormatProgramUptoCard : Claim7 := { stood := { row := fnExactFormatProgramUptoRow, standIns := [], harness := (true, "27f906be966daac923604d38161776af8c1e3f2c52495d63502964d92286946a"), looks := true }, kinds := [], alts := [], laidByText := true, laidKinds := [.data, .data, .data], laidTests := true, laidLooks := .later }
def FnExactFormatProgramUptoCardSaid : Prop := Claim7.holds Tryz.pinned (.plain (OpenSpec.upto fnExactFormatProgramSpec)) fnExactFormatProgramUptoCard

/-- THE SECOND FORM's CARD OF 'laws.FnExactParseProgram'. -/
def fnExactParseProgramUptoCard : Claim7 := { stood := { row := fnExactParseProgramUptoRow, standIns := [], harness := (true, "27f906be966daac923604d38161776af8c1e3f2c52495d63502964d92286946a"), looks := true }, kinds := [], alts := [], laidByText := true, laidKinds := [.data, .data, .data, .data, .sentinel, .sentinel, .pinned], laidTests := true, laidLooks := .later }
def FnExactParseProgramUptoCardSaid : Prop := Claim7.holds Tryz.pinned (.plain (OpenSpec.upto fnExactParseProgramSpec)) fnExactParseProgramUptoCard

/-- THE SECOND FORM's CARD OF 'laws.FnFormatExpr'. -/
def fnFormatExprUptoCard : Claim7 := { stood := { row := fnFormatExprUptoRow, standIns := [], harness := (true, "27f906be966daac923604d38161776af8c1e3f2c52495d63502964d92286946a"), looks := true }, kinds := [], alts := [], laidByText := true, laidKinds := [.data, .data, .data, .data, .sentinel, .sentinel, .pinned], laidTests := true, laidLooks := .later }
def FnFormatExprUptoCardSaid : Prop := Claim7.holds Tryz.pinned (.plain (OpenSpec.upto fnFormatExprSpec)) fnFormatExprUptoCard

/-- THE SECOND FORM's CARD OF 'laws.FnParseExpr'. -/
def fnParseExprUptoCard : Claim7 := { stood := { row := fnParseExprUptoRow, standIns := [], harness := (true, "27f906be966daac923604d38161776af8c1e3f2c52495d63502964d92286946a"), looks := true }, kinds := [], alts := [], laidByText := true, laidKinds := [.data, .data, .data, .data, .sentinel, .sentinel, .pinned], laidTests := true, laidLooks := .later }
def FnParseExprUptoCardSaid : Prop := Claim7.holds Tryz.pinned (.plain (OpenSpec.upto fnParseExprSpec)) fnParseExprUptoCard

/-- THE SECOND FORM's CARD OF 'laws.FnFormatProgramLines'. -/
def fnFormatProgramLinesUptoCard : Claim7 := { stood := { row := fnFormatProgramLinesUptoRow, standIns := [], harness := (true, "27f906be966daac923604d38161776af8c1e3f2c52495d63502964d92286946a"), looks := true }, kinds := [], alts := [], laidByText := true, laidKinds := [.data, .data, .data], laidTests := true, laidLooks := .later }
def FnFormatProgramLinesUptoCardSaid : Prop := Claim7.holds Tryz.pinned (.plain (OpenSpec.upto fnFormatProgramLinesSpec)) fnFormatProgramLinesUptoCard

/-- THE SECOND FORM's CARD OF 'laws.FnFormatProgram'. -/
def fnFormatProgramUptoCard : Claim7 := { stood := { row := fnFormatProgramUptoRow, standIns := [], harness := (true, "27f906be966daac923604d38161776af8c1e3f2c52495d63502964d92286946a"), looks := true }, kinds := [], alts := [], laidByText := true, laidKinds := [.data, .data, .data, .data, .sentinel, .sentinel, .pinned], laidTests := true, laidLooks := .later }
def FnFormatProgramUptoCardSaid : Prop := Claim7.holds Tryz.pinned (.plain (OpenSpec.upto fnFormatProgramSpec)) fnFormatProgramUptoCard

/-- THE SECOND FORM's CARD OF 'laws.FnParseProgram'. -/
def fnParseProgramUptoCard : Claim7 := { stood := { row := fnParseProgramUptoRow, standIns := [], harness := (true, "27f906be966daac923604d38161776af8c1e3f2c52495d63502964d92286946a"), looks := true }, kinds := [], alts := [], laidByText := true, laidKinds := [.data, .data, .data, .data, .sentinel, .sentinel, .pinned], laidTests := true, laidLooks := .later }
def FnParseProgramUptoCardSaid : Prop := Claim7.holds Tryz.pinned (.plain (OpenSpec.upto fnParseProgramSpec)) fnParseProgramUptoCard
end Rows
end Go.Proofs.YtelgbndeeccblaaGreatDoor
