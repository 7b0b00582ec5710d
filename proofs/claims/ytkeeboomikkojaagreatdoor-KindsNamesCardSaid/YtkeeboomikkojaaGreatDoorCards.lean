/-
  DERIVED. GIVEN WITH THE SEED: THE CARDS: each row of YtkeeboomikkojaaGreatDoorRows.lean that lists a variable, with what it lists TIED to the program's text (the seventh form; the later family's looks); each row that meets fmt, with fmt's text TOLD by the authors' own Lean function (tested against real Go, not proved from fmt's source: count such statements apart). THE CARD IS WHAT COUNTS. Prove the row's statement (the work); the ties are given (YtkeeboomikkojaaGreatDoorTie.lean); close each card by the builder's one call (the guide's Derived/Test/ToyasCard.lean, 'card_holds'). Laid BY PROGRAM, IN A SANDBOX (cutbox-door.mjs). By AI agents, Wed Nov 11 2026. No macro, syntax, notation, axiom, sorry.
-/
import Derived.Test.YtkeeboomikkojaaGreatDoorRows
import GoSem.ClaimSeven
namespace Go.Proofs.YtkeeboomikkojaaGreatDoor
namespace Rows

/-- THE TIED CARD OF 'pipewrightlaw.KindsMore'. -/
def kindsMoreCard : Claim7 := { stood := { row := kindsMoreRow, standIns := [], harness := (true, "81f81844f3f5ebb8dbd03ed6324806f5b4aeda661a81ea606bd39d60b09a1c06"), looks := true }, kinds := [], alts := [], laidByText := true, laidKinds := [.data, .data, .data, .sentinel, .sentinel], laidTests := true, laidLooks := .later }
def KindsMoreCardSaid : Prop := Claim7.holds Tryz.pinned (.plain (OpenSpec.ofChange kindsMoreSpec)) kindsMoreCard

/-- THE TIED CARD OF 'pipewrightlaw.RenderForth'. -/
def renderForthCard : Claim7 := { stood := { row := renderForthRow, standIns := [], harness := (true, "81f81844f3f5ebb8dbd03ed6324806f5b4aeda661a81ea606bd39d60b09a1c06"), looks := true }, kinds := [], alts := [], laidByText := true, laidKinds := [.data, .data, .data, .sentinel, .sentinel], laidTests := true, laidLooks := .later }
def RenderForthCardSaid : Prop := Claim7.holds Tryz.pinned (.plain (OpenSpec.ofChange renderForthSpec)) renderForthCard

/-- THE TIED CARD OF 'pipewrightlaw.RenderBack'. -/
def renderBackCard : Claim7 := { stood := { row := renderBackRow, standIns := [], harness := (true, "81f81844f3f5ebb8dbd03ed6324806f5b4aeda661a81ea606bd39d60b09a1c06"), looks := true }, kinds := [], alts := [], laidByText := true, laidKinds := [.data, .data, .data, .sentinel, .sentinel], laidTests := true, laidLooks := .later }
def RenderBackCardSaid : Prop := Claim7.holds Tryz.pinned (.plain (OpenSpec.ofChange renderBackSpec)) renderBackCard

/-- THE TIED CARD OF 'pipewrightlaw.KindsChecks'. -/
def kindsChecksCard : Claim7 := { stood := { row := kindsChecksRow, standIns := [], harness := (true, "81f81844f3f5ebb8dbd03ed6324806f5b4aeda661a81ea606bd39d60b09a1c06"), looks := true }, kinds := [], alts := [], laidByText := true, laidKinds := [.data, .data, .data, .sentinel, .sentinel], laidTests := true, laidLooks := .later }
def KindsChecksCardSaid : Prop := Claim7.holds Tryz.pinned (.plain (OpenSpec.ofChange kindsChecksSpec)) kindsChecksCard

/-- THE TIED CARD OF 'pipewrightlaw.KindsNames'. -/
def kindsNamesCard : Claim7 := { stood := { row := kindsNamesRow, standIns := [], harness := (true, "81f81844f3f5ebb8dbd03ed6324806f5b4aeda661a81ea606bd39d60b09a1c06"), looks := true }, kinds := [], alts := [], laidByText := true, laidKinds := [.data, .data, .data, .sentinel, .sentinel], laidTests := true, laidLooks := .later }
def KindsNamesCardSaid : Prop := Claim7.holds Tryz.pinned (.plain (OpenSpec.ofChange kindsNamesSpec)) kindsNamesCard

/-- THE SECOND FORM's CARD OF 'pipewrightlaw.KindsMore'. -/
def kindsMoreUptoCard : Claim7 := { stood := { row := kindsMoreUptoRow, standIns := [], harness := (true, "81f81844f3f5ebb8dbd03ed6324806f5b4aeda661a81ea606bd39d60b09a1c06"), looks := true }, kinds := [], alts := [], laidByText := true, laidKinds := [.data, .data, .data, .sentinel, .sentinel], laidTests := true, laidLooks := .later }
def KindsMoreUptoCardSaid : Prop := Claim7.holds Tryz.pinned (.plain (OpenSpec.upto kindsMoreSpec)) kindsMoreUptoCard

/-- THE SECOND FORM's CARD OF 'pipewrightlaw.RenderForth'. -/
def renderForthUptoCard : Claim7 := { stood := { row := renderForthUptoRow, standIns := [], harness := (true, "81f81844f3f5ebb8dbd03ed6324806f5b4aeda661a81ea606bd39d60b09a1c06"), looks := true }, kinds := [], alts := [], laidByText := true, laidKinds := [.data, .data, .data, .sentinel, .sentinel], laidTests := true, laidLooks := .later }
def RenderForthUptoCardSaid : Prop := Claim7.holds Tryz.pinned (.plain (OpenSpec.upto renderForthSpec)) renderForthUptoCard

/-- THE SECOND FORM's CARD OF 'pipewrightlaw.RenderBack'. -/
def renderBackUptoCard : Claim7 := { stood := { row := renderBackUptoRow, standIns := [], harness := (true, "81f81844f3f5ebb8dbd03ed6324806f5b4aeda661a81ea606bd39d60b09a1c06"), looks := true }, kinds := [], alts := [], laidByText := true, laidKinds := [.data, .data, .data, .sentinel, .sentinel], laidTests := true, laidLooks := .later }
def RenderBackUptoCardSaid : Prop := Claim7.holds Tryz.pinned (.plain (OpenSpec.upto renderBackSpec)) renderBackUptoCard

/-- THE SECOND FORM's CARD OF 'pipewrightlaw.KindsChecks'. -/
def kindsChecksUptoCard : Claim7 := { stood := { row := kindsChecksUptoRow, standIns := [], harness := (true, "81f81844f3f5ebb8dbd03ed6324806f5b4aeda661a81ea606bd39d60b09a1c06"), looks := true }, kinds := [], alts := [], laidByText := true, laidKinds := [.data, .data, .data, .sentinel, .sentinel], laidTests := true, laidLooks := .later }
def KindsChecksUptoCardSaid : Prop := Claim7.holds Tryz.pinned (.plain (OpenSpec.upto kindsChecksSpec)) kindsChecksUptoCard

/-- THE SECOND FORM's CARD OF 'pipewrightlaw.KindsNames'. -/
def kindsNamesUptoCard : Claim7 := { stood := { row := kindsNamesUptoRow, standIns := [], harness := (true, "81f81844f3f5ebb8dbd03ed6324806f5b4aeda661a81ea606bd39d60b09a1c06"), looks := true }, kinds := [], alts := [], laidByText := true, laidKinds := [.data, .data, .data, .sentinel, .sentinel], laidTests := true, laidLooks := .later }
def KindsNamesUptoCardSaid : Prop := Claim7.holds Tryz.pinned (.plain (OpenSpec.upto kindsNamesSpec)) kindsNamesUptoCard
end Rows
end Go.Proofs.YtkeeboomikkojaaGreatDoor
