/-
  DERIVED. GIVEN WITH THE SEED: THE CARDS: each row of YtaehnpilebkcoaaDoorRows.lean that lists a variable, with what it lists TIED to the program's text (the seventh form; the later family's looks); each row that meets fmt, with fmt's text TOLD by the authors' own Lean function (tested against real Go, not proved from fmt's source: count such statements apart). THE CARD IS WHAT COUNTS. Prove the row's statement (the work); the ties are given (YtaehnpilebkcoaaDoorTie.lean); close each card by the builder's one call (the guide's Derived/Test/ToyasCard.lean, 'card_holds'). Laid BY PROGRAM, IN A SANDBOX (cutbox-door.mjs). By AI agents, Wed Nov 11 2026. No macro, syntax, notation, axiom, sorry.
-/
import Derived.Test.YtaehnpilebkcoaaDoorRows
import GoSem.ClaimSeven
namespace Go.Proofs.YtaehnpilebkcoaaDoor
namespace Rows

/-- THE TIED CARD OF 'pipewrightlaw.RenderChecks'. -/
def renderChecksCard : Claim7 := { stood := { row := renderChecksRow, standIns := [], harness := (true, "6169bef86c42bd9d25cf2ad5d4687d0d3a45d3c0a2b027e809ddff01a7dad96b"), looks := true }, kinds := [], alts := [], laidByText := true, laidKinds := [.data, .data, .data], laidTests := true, laidLooks := .later }
def RenderChecksCardSaid : Prop := Claim7.holds Tryd.pinned (.plain (OpenSpec.ofChange renderChecksSpec)) renderChecksCard

/-- THE TIED CARD OF 'pipewrightlaw.RenderPrints'. -/
def renderPrintsCard : Claim7 := { stood := { row := renderPrintsRow, standIns := [], harness := (true, "6169bef86c42bd9d25cf2ad5d4687d0d3a45d3c0a2b027e809ddff01a7dad96b"), looks := true }, kinds := [], alts := [], laidByText := true, laidKinds := [.data, .data, .data], laidTests := true, laidLooks := .later }
def RenderPrintsCardSaid : Prop := Claim7.holds Tryd.pinned (.plain (OpenSpec.ofChange renderPrintsSpec)) renderPrintsCard

/-- THE TIED CARD OF 'pipewrightlaw.RenderApart'. -/
def renderApartCard : Claim7 := { stood := { row := renderApartRow, standIns := [], harness := (true, "6169bef86c42bd9d25cf2ad5d4687d0d3a45d3c0a2b027e809ddff01a7dad96b"), looks := true }, kinds := [], alts := [], laidByText := true, laidKinds := [.data, .data, .data], laidTests := true, laidLooks := .later }
def RenderApartCardSaid : Prop := Claim7.holds Tryd.pinned (.plain (OpenSpec.ofChange renderApartSpec)) renderApartCard

/-- THE TIED CARD OF 'pipewrightlaw.SyntaxParses'. -/
def syntaxParsesCard : Claim7 := { stood := { row := syntaxParsesRow, standIns := [], harness := (true, "6169bef86c42bd9d25cf2ad5d4687d0d3a45d3c0a2b027e809ddff01a7dad96b"), looks := true }, kinds := [], alts := [], laidByText := true, laidKinds := [.data, .data, .data, .sentinel, .sentinel], laidTests := true, laidLooks := .later }
def SyntaxParsesCardSaid : Prop := Claim7.holds Tryd.pinned (.plain (OpenSpec.ofChange syntaxParsesSpec)) syntaxParsesCard

/-- THE TIED CARD OF 'pipewrightlaw.SyntaxStops'. -/
def syntaxStopsCard : Claim7 := { stood := { row := syntaxStopsRow, standIns := [], harness := (true, "6169bef86c42bd9d25cf2ad5d4687d0d3a45d3c0a2b027e809ddff01a7dad96b"), looks := true }, kinds := [], alts := [], laidByText := true, laidKinds := [.data, .data, .data, .sentinel, .sentinel], laidTests := true, laidLooks := .later }
def SyntaxStopsCardSaid : Prop := Claim7.holds Tryd.pinned (.plain (OpenSpec.ofChange syntaxStopsSpec)) syntaxStopsCard

/-- THE TIED CARD OF 'pipewrightlaw.SyntaxSames'. -/
def syntaxSamesCard : Claim7 := { stood := { row := syntaxSamesRow, standIns := [], harness := (true, "6169bef86c42bd9d25cf2ad5d4687d0d3a45d3c0a2b027e809ddff01a7dad96b"), looks := true }, kinds := [], alts := [], laidByText := true, laidKinds := [.data, .data, .data, .sentinel, .sentinel], laidTests := true, laidLooks := .later }
def SyntaxSamesCardSaid : Prop := Claim7.holds Tryd.pinned (.plain (OpenSpec.ofChange syntaxSamesSpec)) syntaxSamesCard

/-- THE TIED CARD OF 'pipewrightlaw.SyntaxJoins'. -/
def syntaxJoinsCard : Claim7 := { stood := { row := syntaxJoinsRow, standIns := [], harness := (true, "6169bef86c42bd9d25cf2ad5d4687d0d3a45d3c0a2b027e809ddff01a7dad96b"), looks := true }, kinds := [], alts := [], laidByText := true, laidKinds := [.data, .data, .data, .sentinel, .sentinel], laidTests := true, laidLooks := .later }
def SyntaxJoinsCardSaid : Prop := Claim7.holds Tryd.pinned (.plain (OpenSpec.ofChange syntaxJoinsSpec)) syntaxJoinsCard

/-- THE SECOND FORM's CARD OF 'pipewrightlaw.RenderChecks'. -/
def renderChecksUptoCard : Claim7 := { stood := { row := renderChecksUptoRow, standIns := [], harness := (true, "6169bef86c42bd9d25cf2ad5d4687d0d3a45d3c0a2b027e809ddff01a7dad96b"), looks := true }, kinds := [], alts := [], laidByText := true, laidKinds := [.data, .data, .data], laidTests := true, laidLooks := .later }
def RenderChecksUptoCardSaid : Prop := Claim7.holds Tryd.pinned (.plain (OpenSpec.upto renderChecksSpec)) renderChecksUptoCard

/-- THE SECOND FORM's CARD OF 'pipewrightlaw.RenderPrints'. -/
def renderPrintsUptoCard : Claim7 := { stood := { row := renderPrintsUptoRow, standIns := [], harness := (true, "6169bef86c42bd9d25cf2ad5d4687d0d3a45d3c0a2b027e809ddff01a7dad96b"), looks := true }, kinds := [], alts := [], laidByText := true, laidKinds := [.data, .data, .data], laidTests := true, laidLooks := .later }
def RenderPrintsUptoCardSaid : Prop := Claim7.holds Tryd.pinned (.plain (OpenSpec.upto renderPrintsSpec)) renderPrintsUptoCard

/-- THE SECOND FORM's CARD OF 'pipewrightlaw.RenderApart'. -/
def renderApartUptoCard : Claim7 := { stood := { row := renderApartUptoRow, standIns := [], harness := (true, "6169bef86c42bd9d25cf2ad5d4687d0d3a45d3c0a2b027e809ddff01a7dad96b"), looks := true }, kinds := [], alts := [], laidByText := true, laidKinds := [.data, .data, .data], laidTests := true, laidLooks := .later }
def RenderApartUptoCardSaid : Prop := Claim7.holds Tryd.pinned (.plain (OpenSpec.upto renderApartSpec)) renderApartUptoCard

/-- THE SECOND FORM's CARD OF 'pipewrightlaw.SyntaxParses'. -/
def syntaxParsesUptoCard : Claim7 := { stood := { row := syntaxParsesUptoRow, standIns := [], harness := (true, "6169bef86c42bd9d25cf2ad5d4687d0d3a45d3c0a2b027e809ddff01a7dad96b"), looks := true }, kinds := [], alts := [], laidByText := true, laidKinds := [.data, .data, .data, .sentinel, .sentinel], laidTests := true, laidLooks := .later }
def SyntaxParsesUptoCardSaid : Prop := Claim7.holds Tryd.pinned (.plain (OpenSpec.upto syntaxParsesSpec)) syntaxParsesUptoCard

/-- THE SECOND FORM's CARD OF 'pipewrightlaw.SyntaxStops'. -/
def syntaxStopsUptoCard : Claim7 := { stood := { row := syntaxStopsUptoRow, standIns := [], harness := (true, "6169bef86c42bd9d25cf2ad5d4687d0d3a45d3c0a2b027e809ddff01a7dad96b"), looks := true }, kinds := [], alts := [], laidByText := true, laidKinds := [.data, .data, .data, .sentinel, .sentinel], laidTests := true, laidLooks := .later }
def SyntaxStopsUptoCardSaid : Prop := Claim7.holds Tryd.pinned (.plain (OpenSpec.upto syntaxStopsSpec)) syntaxStopsUptoCard

/-- THE SECOND FORM's CARD OF 'pipewrightlaw.SyntaxSames'. -/
def syntaxSamesUptoCard : Claim7 := { stood := { row := syntaxSamesUptoRow, standIns := [], harness := (true, "6169bef86c42bd9d25cf2ad5d4687d0d3a45d3c0a2b027e809ddff01a7dad96b"), looks := true }, kinds := [], alts := [], laidByText := true, laidKinds := [.data, .data, .data, .sentinel, .sentinel], laidTests := true, laidLooks := .later }
def SyntaxSamesUptoCardSaid : Prop := Claim7.holds Tryd.pinned (.plain (OpenSpec.upto syntaxSamesSpec)) syntaxSamesUptoCard

/-- THE SECOND FORM's CARD OF 'pipewrightlaw.SyntaxJoins'. -/
def syntaxJoinsUptoCard : Claim7 := { stood := { row := syntaxJoinsUptoRow, standIns := [], harness := (true, "6169bef86c42bd9d25cf2ad5d4687d0d3a45d3c0a2b027e809ddff01a7dad96b"), looks := true }, kinds := [], alts := [], laidByText := true, laidKinds := [.data, .data, .data, .sentinel, .sentinel], laidTests := true, laidLooks := .later }
def SyntaxJoinsUptoCardSaid : Prop := Claim7.holds Tryd.pinned (.plain (OpenSpec.upto syntaxJoinsSpec)) syntaxJoinsUptoCard
end Rows
end Go.Proofs.YtaehnpilebkcoaaDoor
