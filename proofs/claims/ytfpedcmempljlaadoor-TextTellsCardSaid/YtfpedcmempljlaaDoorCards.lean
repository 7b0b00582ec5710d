/-
  DERIVED. GIVEN WITH THE SEED: THE CARDS: each row of YtfpedcmempljlaaDoorRows.lean that lists a variable, with what it lists TIED to the program's text (the seventh form; the later family's looks); each row that meets fmt, with fmt's text TOLD by the authors' own Lean function (tested against real Go, not proved from fmt's source: count such statements apart). THE CARD IS WHAT COUNTS. Prove the row's statement (the work); the ties are given (YtfpedcmempljlaaDoorTie.lean); close each card by the builder's one call (the guide's Derived/Test/ToyasCard.lean, 'card_holds'). Laid BY PROGRAM, IN A SANDBOX (cutbox-door.mjs). By AI agents, Wed Nov 11 2026. No macro, syntax, notation, axiom, sorry.
-/
import Derived.Test.YtfpedcmempljlaaDoorRows
import GoSem.ClaimSeven
namespace Go.Proofs.YtfpedcmempljlaaDoor
namespace Rows

/-- THE TIED CARD OF 'pipewrightlaw.TextOrders'. -/
def textOrdersCard : Claim7 := { stood := { row := textOrdersRow, standIns := [], harness := (true, "7a8278bd05a62192fc183b27d9fca0e70ba199f6a94ca8259aa1e09d916d0247"), looks := false }, kinds := [], alts := [], laidByText := true, laidKinds := [.listed, .data], laidTests := true, laidLooks := .later }
def TextOrdersCardSaid : Prop := Claim7.holds Tryd.pinned (.plain (OpenSpec.ofChange textOrdersSpec)) textOrdersCard

/-- THE TIED CARD OF 'pipewrightlaw.TextTells'. -/
def textTellsCard : Claim7 := { stood := { row := textTellsRow, standIns := [], harness := (true, "7a8278bd05a62192fc183b27d9fca0e70ba199f6a94ca8259aa1e09d916d0247"), looks := false }, kinds := [], alts := [], laidByText := true, laidKinds := [.data, .data, .data, .listed, .data], laidTests := true, laidLooks := .later }
def TextTellsCardSaid : Prop := Claim7.holds Tryd.pinned (.plain (OpenSpec.ofChange textTellsSpec)) textTellsCard

/-- THE SECOND FORM's CARD OF 'pipewrightlaw.TextOrders'. -/
def textOrdersUptoCard : Claim7 := { stood := { row := textOrdersUptoRow, standIns := [], harness := (true, "7a8278bd05a62192fc183b27d9fca0e70ba199f6a94ca8259aa1e09d916d0247"), looks := false }, kinds := [], alts := [], laidByText := true, laidKinds := [.listed, .data], laidTests := true, laidLooks := .later }
def TextOrdersUptoCardSaid : Prop := Claim7.holds Tryd.pinned (.plain (OpenSpec.upto textOrdersSpec)) textOrdersUptoCard

/-- THE SECOND FORM's CARD OF 'pipewrightlaw.TextTells'. -/
def textTellsUptoCard : Claim7 := { stood := { row := textTellsUptoRow, standIns := [], harness := (true, "7a8278bd05a62192fc183b27d9fca0e70ba199f6a94ca8259aa1e09d916d0247"), looks := false }, kinds := [], alts := [], laidByText := true, laidKinds := [.data, .data, .data, .listed, .data], laidTests := true, laidLooks := .later }
def TextTellsUptoCardSaid : Prop := Claim7.holds Tryd.pinned (.plain (OpenSpec.upto textTellsSpec)) textTellsUptoCard
end Rows
end Go.Proofs.YtfpedcmempljlaaDoor
