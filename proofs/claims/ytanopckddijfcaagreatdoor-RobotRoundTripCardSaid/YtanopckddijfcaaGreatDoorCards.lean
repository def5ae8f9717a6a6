/-
  DERIVED. GIVEN WITH THE SEED: THE CARDS: each row of YtanopckddijfcaaGreatDoorRows.lean that lists a variable, with what it lists TIED to the program's text (the seventh form; the later family's looks); each row that meets fmt, with fmt's text TOLD by the authors' own Lean function (tested against real Go, not proved from fmt's source: count such statements apart). THE CARD IS WHAT COUNTS. Prove the row's statement (the work); the ties are given (YtanopckddijfcaaGreatDoorTie.lean); close each card by the builder's one call (the guide's Derived/Test/ToyasCard.lean, 'card_holds'). Laid BY PROGRAM, IN A SANDBOX (cutbox-door.mjs). By AI agents, Wed Nov 11 2026. No macro, syntax, notation, axiom, sorry.
-/
import Derived.Test.YtanopckddijfcaaGreatDoorRows
import GoSem.ClaimSeven
namespace Go.Proofs.YtanopckddijfcaaGreatDoor
namespace Rows

/-- THE TIED CARD OF 'armplanlaw8.RobotReads'. -/
def robotReadsCard : Claim7 := { stood := { row := robotReadsRow, standIns := [], harness := (true, "53449466b9edfddeda1a1a6c61ac1999740dad59c36a6d89ed3294bf320e0dd2"), looks := true }, kinds := [], alts := [], laidByText := true, laidKinds := [.data, .data, .data, .sentinel, .sentinel, .widerDeep], laidTests := true, laidLooks := .later }
def RobotReadsCardSaid : Prop := Claim7.holds Tryz.pinned (.plain (OpenSpec.ofChange robotReadsSpec)) robotReadsCard

/-- THE TIED CARD OF 'armplanlaw8.RobotChains'. -/
def robotChainsCard : Claim7 := { stood := { row := robotChainsRow, standIns := [], harness := (true, "53449466b9edfddeda1a1a6c61ac1999740dad59c36a6d89ed3294bf320e0dd2"), looks := true }, kinds := [], alts := [], laidByText := true, laidKinds := [.data, .data, .data, .sentinel, .sentinel, .widerDeep], laidTests := true, laidLooks := .later }
def RobotChainsCardSaid : Prop := Claim7.holds Tryz.pinned (.plain (OpenSpec.ofChange robotChainsSpec)) robotChainsCard

/-- THE TIED CARD OF 'armplanlaw8.RobotRoundTrip'. -/
def robotRoundTripCard : Claim7 := { stood := { row := robotRoundTripRow, standIns := [], harness := (true, "53449466b9edfddeda1a1a6c61ac1999740dad59c36a6d89ed3294bf320e0dd2"), looks := true }, kinds := [], alts := [], laidByText := true, laidKinds := [.data, .data, .data, .data, .sentinel, .sentinel, .widerDeep, .pinned], laidTests := true, laidLooks := .later }
def RobotRoundTripCardSaid : Prop := Claim7.holds Tryz.pinned (.plain (OpenSpec.ofChange robotRoundTripSpec)) robotRoundTripCard

/-- THE SECOND FORM's CARD OF 'armplanlaw8.RobotReads'. -/
def robotReadsUptoCard : Claim7 := { stood := { row := robotReadsUptoRow, standIns := [], harness := (true, "53449466b9edfddeda1a1a6c61ac1999740dad59c36a6d89ed3294bf320e0dd2"), looks := true }, kinds := [], alts := [], laidByText := true, laidKinds := [.data, .data, .data, .sentinel, .sentinel, .widerDeep], laidTests := true, laidLooks := .later }
def RobotReadsUptoCardSaid : Prop := Claim7.holds Tryz.pinned (.plain (OpenSpec.upto robotReadsSpec)) robotReadsUptoCard

/-- THE SECOND FORM's CARD OF 'armplanlaw8.RobotChains'. -/
def robotChainsUptoCard : Claim7 := { stood := { row := robotChainsUptoRow, standIns := [], harness := (true, "53449466b9edfddeda1a1a6c61ac1999740dad59c36a6d89ed3294bf320e0dd2"), looks := true }, kinds := [], alts := [], laidByText := true, laidKinds := [.data, .data, .data, .sentinel, .sentinel, .widerDeep], laidTests := true, laidLooks := .later }
def RobotChainsUptoCardSaid : Prop := Claim7.holds Tryz.pinned (.plain (OpenSpec.upto robotChainsSpec)) robotChainsUptoCard

/-- THE SECOND FORM's CARD OF 'armplanlaw8.RobotRoundTrip'. -/
def robotRoundTripUptoCard : Claim7 := { stood := { row := robotRoundTripUptoRow, standIns := [], harness := (true, "53449466b9edfddeda1a1a6c61ac1999740dad59c36a6d89ed3294bf320e0dd2"), looks := true }, kinds := [], alts := [], laidByText := true, laidKinds := [.data, .data, .data, .data, .sentinel, .sentinel, .widerDeep, .pinned], laidTests := true, laidLooks := .later }
def RobotRoundTripUptoCardSaid : Prop := Claim7.holds Tryz.pinned (.plain (OpenSpec.upto robotRoundTripSpec)) robotRoundTripUptoCard
end Rows
end Go.Proofs.YtanopckddijfcaaGreatDoor
