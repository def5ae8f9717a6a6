/-
  DERIVED. GIVEN WITH THE SEED: THE CARDS: each row of YtanopckddijfcaaDoorRows.lean that lists a variable, with what it lists TIED to the program's text (the seventh form; the later family's looks); each row that meets fmt, with fmt's text TOLD by the authors' own Lean function (tested against real Go, not proved from fmt's source: count such statements apart). THE CARD IS WHAT COUNTS. Prove the row's statement (the work); the ties are given (YtanopckddijfcaaDoorTie.lean); close each card by the builder's one call (the guide's Derived/Test/ToyasCard.lean, 'card_holds'). Laid BY PROGRAM, IN A SANDBOX (cutbox-door.mjs). By AI agents, Wed Nov 11 2026. No macro, syntax, notation, axiom, sorry.
-/
import Derived.Test.YtanopckddijfcaaDoorRows
import GoSem.ClaimSeven
namespace Go.Proofs.YtanopckddijfcaaDoor
namespace Rows

/-- THE TIED CARD OF 'armplanlaw8.RobotChecks'. -/
def robotChecksCard : Claim7 := { stood := { row := robotChecksRow, standIns := [], harness := (true, "2b78cb950eea85aaf015c4f76e99739778f530115da56dbabb405f9e8434cf60"), looks := true }, kinds := [], alts := [], laidByText := true, laidKinds := [.data, .data, .data, .sentinel, .sentinel, .widerDeep], laidTests := true, laidLooks := .later }
def RobotChecksCardSaid : Prop := Claim7.holds Tryd.pinned (.plain (OpenSpec.ofChange robotChecksSpec)) robotChecksCard

/-- THE TIED CARD OF 'armplanlaw8.RobotChainSteps'. -/
def robotChainStepsCard : Claim7 := { stood := { row := robotChainStepsRow, standIns := [], harness := (true, "2b78cb950eea85aaf015c4f76e99739778f530115da56dbabb405f9e8434cf60"), looks := true }, kinds := [], alts := [], laidByText := true, laidKinds := [.data, .data, .data, .sentinel, .sentinel, .widerDeep], laidTests := true, laidLooks := .later }
def RobotChainStepsCardSaid : Prop := Claim7.holds Tryd.pinned (.plain (OpenSpec.ofChange robotChainStepsSpec)) robotChainStepsCard

/-- THE TIED CARD OF 'armplanlaw8.RobotBetween'. -/
def robotBetweenCard : Claim7 := { stood := { row := robotBetweenRow, standIns := [], harness := (true, "2b78cb950eea85aaf015c4f76e99739778f530115da56dbabb405f9e8434cf60"), looks := true }, kinds := [], alts := [], laidByText := true, laidKinds := [.data, .data, .data, .sentinel, .sentinel, .widerDeep], laidTests := true, laidLooks := .later }
def RobotBetweenCardSaid : Prop := Claim7.holds Tryd.pinned (.plain (OpenSpec.ofChange robotBetweenSpec)) robotBetweenCard

/-- THE SECOND FORM's CARD OF 'armplanlaw8.RobotChecks'. -/
def robotChecksUptoCard : Claim7 := { stood := { row := robotChecksUptoRow, standIns := [], harness := (true, "2b78cb950eea85aaf015c4f76e99739778f530115da56dbabb405f9e8434cf60"), looks := true }, kinds := [], alts := [], laidByText := true, laidKinds := [.data, .data, .data, .sentinel, .sentinel, .widerDeep], laidTests := true, laidLooks := .later }
def RobotChecksUptoCardSaid : Prop := Claim7.holds Tryd.pinned (.plain (OpenSpec.upto robotChecksSpec)) robotChecksUptoCard

/-- THE SECOND FORM's CARD OF 'armplanlaw8.RobotChainSteps'. -/
def robotChainStepsUptoCard : Claim7 := { stood := { row := robotChainStepsUptoRow, standIns := [], harness := (true, "2b78cb950eea85aaf015c4f76e99739778f530115da56dbabb405f9e8434cf60"), looks := true }, kinds := [], alts := [], laidByText := true, laidKinds := [.data, .data, .data, .sentinel, .sentinel, .widerDeep], laidTests := true, laidLooks := .later }
def RobotChainStepsUptoCardSaid : Prop := Claim7.holds Tryd.pinned (.plain (OpenSpec.upto robotChainStepsSpec)) robotChainStepsUptoCard

/-- THE SECOND FORM's CARD OF 'armplanlaw8.RobotBetween'. -/
def robotBetweenUptoCard : Claim7 := { stood := { row := robotBetweenUptoRow, standIns := [], harness := (true, "2b78cb950eea85aaf015c4f76e99739778f530115da56dbabb405f9e8434cf60"), looks := true }, kinds := [], alts := [], laidByText := true, laidKinds := [.data, .data, .data, .sentinel, .sentinel, .widerDeep], laidTests := true, laidLooks := .later }
def RobotBetweenUptoCardSaid : Prop := Claim7.holds Tryd.pinned (.plain (OpenSpec.upto robotBetweenSpec)) robotBetweenUptoCard
end Rows
end Go.Proofs.YtanopckddijfcaaDoor
