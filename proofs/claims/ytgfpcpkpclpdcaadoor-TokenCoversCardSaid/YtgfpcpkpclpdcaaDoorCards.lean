/-
  DERIVED. GIVEN WITH THE SEED: THE CARDS: each row of YtgfpcpkpclpdcaaDoorRows.lean that lists a variable, with what it lists TIED to the program's text (the seventh form; the later family's looks); each row that meets fmt, with fmt's text TOLD by the authors' own Lean function (tested against real Go, not proved from fmt's source: count such statements apart). THE CARD IS WHAT COUNTS. Prove the row's statement (the work); the ties are given (YtgfpcpkpclpdcaaDoorTie.lean); close each card by the builder's one call (the guide's Derived/Test/ToyasCard.lean, 'card_holds'). Laid BY PROGRAM, IN A SANDBOX (cutbox-door.mjs). By AI agents, Wed Nov 11 2026. No macro, syntax, notation, axiom, sorry.
-/
import Derived.Test.YtgfpcpkpclpdcaaDoorRows
import GoSem.ClaimSeven
namespace Go.Proofs.YtgfpcpkpclpdcaaDoor
namespace Rows

/-- THE TIED CARD OF 'pipewrightlaw.TokenScans'. -/
def tokenScansCard : Claim7 := { stood := { row := tokenScansRow, standIns := [], harness := (true, "dd5976ef04b08970032333654e9e0fd314589406d1a9e487efab6ce1fc94f9c9"), looks := true }, kinds := [], alts := [], laidByText := true, laidKinds := [.data, .data, .data, .sentinel, .sentinel], laidTests := true, laidLooks := .later }
def TokenScansCardSaid : Prop := Claim7.holds Tryd.pinned (.plain (OpenSpec.ofChange tokenScansSpec)) tokenScansCard

/-- THE TIED CARD OF 'pipewrightlaw.TokenCovers'. -/
def tokenCoversCard : Claim7 := { stood := { row := tokenCoversRow, standIns := [], harness := (true, "dd5976ef04b08970032333654e9e0fd314589406d1a9e487efab6ce1fc94f9c9"), looks := true }, kinds := [], alts := [], laidByText := true, laidKinds := [.data, .data, .data, .sentinel, .sentinel], laidTests := true, laidLooks := .later }
def TokenCoversCardSaid : Prop := Claim7.holds Tryd.pinned (.plain (OpenSpec.ofChange tokenCoversSpec)) tokenCoversCard

/-- THE TIED CARD OF 'pipewrightlaw.TokenJoins'. -/
def tokenJoinsCard : Claim7 := { stood := { row := tokenJoinsRow, standIns := [], harness := (true, "dd5976ef04b08970032333654e9e0fd314589406d1a9e487efab6ce1fc94f9c9"), looks := true }, kinds := [], alts := [], laidByText := true, laidKinds := [.data, .data, .data, .sentinel, .sentinel], laidTests := true, laidLooks := .later }
def TokenJoinsCardSaid : Prop := Claim7.holds Tryd.pinned (.plain (OpenSpec.ofChange tokenJoinsSpec)) tokenJoinsCard

/-- THE SECOND FORM's CARD OF 'pipewrightlaw.TokenScans'. -/
def tokenScansUptoCard : Claim7 := { stood := { row := tokenScansUptoRow, standIns := [], harness := (true, "dd5976ef04b08970032333654e9e0fd314589406d1a9e487efab6ce1fc94f9c9"), looks := true }, kinds := [], alts := [], laidByText := true, laidKinds := [.data, .data, .data, .sentinel, .sentinel], laidTests := true, laidLooks := .later }
def TokenScansUptoCardSaid : Prop := Claim7.holds Tryd.pinned (.plain (OpenSpec.upto tokenScansSpec)) tokenScansUptoCard

/-- THE SECOND FORM's CARD OF 'pipewrightlaw.TokenCovers'. -/
def tokenCoversUptoCard : Claim7 := { stood := { row := tokenCoversUptoRow, standIns := [], harness := (true, "dd5976ef04b08970032333654e9e0fd314589406d1a9e487efab6ce1fc94f9c9"), looks := true }, kinds := [], alts := [], laidByText := true, laidKinds := [.data, .data, .data, .sentinel, .sentinel], laidTests := true, laidLooks := .later }
def TokenCoversUptoCardSaid : Prop := Claim7.holds Tryd.pinned (.plain (OpenSpec.upto tokenCoversSpec)) tokenCoversUptoCard

/-- THE SECOND FORM's CARD OF 'pipewrightlaw.TokenJoins'. -/
def tokenJoinsUptoCard : Claim7 := { stood := { row := tokenJoinsUptoRow, standIns := [], harness := (true, "dd5976ef04b08970032333654e9e0fd314589406d1a9e487efab6ce1fc94f9c9"), looks := true }, kinds := [], alts := [], laidByText := true, laidKinds := [.data, .data, .data, .sentinel, .sentinel], laidTests := true, laidLooks := .later }
def TokenJoinsUptoCardSaid : Prop := Claim7.holds Tryd.pinned (.plain (OpenSpec.upto tokenJoinsSpec)) tokenJoinsUptoCard
end Rows
end Go.Proofs.YtgfpcpkpclpdcaaDoor
