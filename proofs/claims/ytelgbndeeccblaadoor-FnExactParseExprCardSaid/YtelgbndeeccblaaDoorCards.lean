/-
  DERIVED. GIVEN WITH THE SEED: THE CARDS: each row of YtelgbndeeccblaaDoorRows.lean that lists a variable, with what it lists TIED to the program's text (the seventh form; the later family's looks); each row that meets fmt, with fmt's text TOLD by the authors' own Lean function (tested against real Go, not proved from fmt's source: count such statements apart). THE CARD IS WHAT COUNTS. Prove the row's statement (the work); the ties are given (YtelgbndeeccblaaDoorTie.lean); close each card by the builder's one call (the guide's Derived/Test/ToyasCard.lean, 'card_holds'). Laid BY PROGRAM, IN A SANDBOX (cutbox-door.mjs). By AI agents, Wed Nov 11 2026. No macro, syntax, notation, axiom, sorry.
-/
import Derived.Test.YtelgbndeeccblaaDoorRows
import GoSem.ClaimSeven
namespace Go.Proofs.YtelgbndeeccblaaDoor
namespace Rows

/-- THE TIED CARD OF 'laws.FnExactFormatExpr'. -/
def fnExactFormatExprCard : Claim7 := { stood := { row := fnExactFormatExprRow, standIns := [], harness := (true, "5a0db83a392bfc1a7355a6411ffc7e642af965ef44dab18b30ae7396a09305d0"), looks := true }, kinds := [], alts := [], laidByText := true, laidKinds := [.data, .data, .data], laidTests := true, laidLooks := .later }
def FnExactFormatExprCardSaid : Prop := Claim7.holds Tryd.pinned (.plain (OpenSpec.ofChange fnExactFormatExprSpec)) fnExactFormatExprCard

/-- THE TIED CARD OF 'laws.FnExactParseExpr'. -/
def fnExactParseExprCard : Claim7 := { stood := { row := fnExactParseExprRow, standIns := [], harness := (true, "5a0db83a392bfc1a7355a6411ffc7e642af965ef44dab18b30ae7396a09305d0"), looks := true }, kinds := [], alts := [], laidByText := true, laidKinds := [.data, .data, .data, .data, .sentinel, .sentinel, .pinned], laidTests := true, laidLooks := .later }
def FnExactParseExprCardSaid : Prop := Claim7.holds Tryd.pinned (.plain (OpenSpec.ofChange fnExactParseExprSpec)) fnExactParseExprCard

/-- THE TIED CARD OF 'laws.FnFormatExprKids'. -/
def fnFormatExprKidsCard : Claim7 := { stood := { row := fnFormatExprKidsRow, standIns := [], harness := (true, "5a0db83a392bfc1a7355a6411ffc7e642af965ef44dab18b30ae7396a09305d0"), looks := true }, kinds := [], alts := [], laidByText := true, laidKinds := [.data, .data, .data], laidTests := true, laidLooks := .later }
def FnFormatExprKidsCardSaid : Prop := Claim7.holds Tryd.pinned (.plain (OpenSpec.ofChange fnFormatExprKidsSpec)) fnFormatExprKidsCard

/-- THE SECOND FORM's CARD OF 'laws.FnExactFormatExpr'. -/
def fnExactFormatExprUptoCard : Claim7 := { stood := { row := fnExactFormatExprUptoRow, standIns := [], harness := (true, "5a0db83a392bfc1a7355a6411ffc7e642af965ef44dab18b30ae7396a09305d0"), looks := true }, kinds := [], alts := [], laidByText := true, laidKinds := [.data, .data, .data], laidTests := true, laidLooks := .later }
def FnExactFormatExprUptoCardSaid : Prop := Claim7.holds Tryd.pinned (.plain (OpenSpec.upto fnExactFormatExprSpec)) fnExactFormatExprUptoCard

/-- THE SECOND FORM's CARD OF 'laws.FnExactParseExpr'. -/
def fnExactParseExprUptoCard : Claim7 := { stood := { row := fnExactParseExprUptoRow, standIns := [], harness := (true, "5a0db83a392bfc1a7355a6411ffc7e642af965ef44dab18b30ae7396a09305d0"), looks := true }, kinds := [], alts := [], laidByText := true, laidKinds := [.data, .data, .data, .data, .sentinel, .sentinel, .pinned], laidTests := true, laidLooks := .later }
def FnExactParseExprUptoCardSaid : Prop := Claim7.holds Tryd.pinned (.plain (OpenSpec.upto fnExactParseExprSpec)) fnExactParseExprUptoCard

/-- THE SECOND FORM's CARD OF 'laws.FnFormatExprKids'. -/
def fnFormatExprKidsUptoCard : Claim7 := { stood := { row := fnFormatExprKidsUptoRow, standIns := [], harness := (true, "5a0db83a392bfc1a7355a6411ffc7e642af965ef44dab18b30ae7396a09305d0"), looks := true }, kinds := [], alts := [], laidByText := true, laidKinds := [.data, .data, .data], laidTests := true, laidLooks := .later }
def FnFormatExprKidsUptoCardSaid : Prop := Claim7.holds Tryd.pinned (.plain (OpenSpec.upto fnFormatExprKidsSpec)) fnFormatExprKidsUptoCard
end Rows
end Go.Proofs.YtelgbndeeccblaaDoor
