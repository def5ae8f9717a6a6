/-
  DERIVED. GIVEN WITH THE SEED: THE CARDS: each row of YtgligkmpgefbmaaDoorRows.lean that lists a variable, with what it lists TIED to the program's text (the seventh form; the later family's looks); each row that meets fmt, with fmt's text TOLD by the authors' own Lean function (tested against real Go, not proved from fmt's source: count such statements apart). THE CARD IS WHAT COUNTS. Prove the row's statement (the work); the ties are given (YtgligkmpgefbmaaDoorTie.lean); close each card by the builder's one call (the guide's Derived/Test/ToyasCard.lean, 'card_holds'). Laid BY PROGRAM, IN A SANDBOX (cutbox-door.mjs). By AI agents, Wed Nov 11 2026. No macro, syntax, notation, axiom, sorry.
-/
import Derived.Test.YtgligkmpgefbmaaDoorRows
import GoSem.ClaimSeven
namespace Go.Proofs.YtgligkmpgefbmaaDoor
namespace Rows

/-- THE TIED CARD OF 'armplanlaw6.TokenSplits'. -/
def tokenSplitsCard : Claim7 := { stood := { row := tokenSplitsRow, standIns := [], harness := (true, "d6ede7990721a129ffe1f894a7cbd4b37ba81d80d4b617c4892062194e10c4c8"), looks := true }, kinds := [], alts := [], laidByText := true, laidKinds := [.data, .data, .data, .sentinel, .sentinel], laidTests := true, laidLooks := .later }
def TokenSplitsCardSaid : Prop := Claim7.holds Tryd.pinned (.plain (OpenSpec.ofChange tokenSplitsSpec)) tokenSplitsCard

/-- THE TIED CARD OF 'armplanlaw6.TokenRejoins'. -/
def tokenRejoinsCard : Claim7 := { stood := { row := tokenRejoinsRow, standIns := [], harness := (true, "d6ede7990721a129ffe1f894a7cbd4b37ba81d80d4b617c4892062194e10c4c8"), looks := true }, kinds := [], alts := [], laidByText := true, laidKinds := [.data, .data, .data, .sentinel, .sentinel], laidTests := true, laidLooks := .later }
def TokenRejoinsCardSaid : Prop := Claim7.holds Tryd.pinned (.plain (OpenSpec.ofChange tokenRejoinsSpec)) tokenRejoinsCard

/-- THE TIED CARD OF 'armplanlaw6.TokenPlaces'. -/
def tokenPlacesCard : Claim7 := { stood := { row := tokenPlacesRow, standIns := [], harness := (true, "d6ede7990721a129ffe1f894a7cbd4b37ba81d80d4b617c4892062194e10c4c8"), looks := true }, kinds := [], alts := [], laidByText := true, laidKinds := [.data, .data, .data, .sentinel, .sentinel], laidTests := true, laidLooks := .later }
def TokenPlacesCardSaid : Prop := Claim7.holds Tryd.pinned (.plain (OpenSpec.ofChange tokenPlacesSpec)) tokenPlacesCard

/-- THE TIED CARD OF 'armplanlaw6.TokenNearest'. -/
def tokenNearestCard : Claim7 := { stood := { row := tokenNearestRow, standIns := [], harness := (true, "d6ede7990721a129ffe1f894a7cbd4b37ba81d80d4b617c4892062194e10c4c8"), looks := true }, kinds := [], alts := [], laidByText := true, laidKinds := [.data, .data, .data, .sentinel, .sentinel], laidTests := true, laidLooks := .later }
def TokenNearestCardSaid : Prop := Claim7.holds Tryd.pinned (.plain (OpenSpec.ofChange tokenNearestSpec)) tokenNearestCard

/-- THE TIED CARD OF 'armplanlaw6.TokenNames'. -/
def tokenNamesCard : Claim7 := { stood := { row := tokenNamesRow, standIns := [], harness := (true, "d6ede7990721a129ffe1f894a7cbd4b37ba81d80d4b617c4892062194e10c4c8"), looks := true }, kinds := [], alts := [], laidByText := true, laidKinds := [.data, .data, .data, .sentinel, .sentinel], laidTests := true, laidLooks := .later }
def TokenNamesCardSaid : Prop := Claim7.holds Tryd.pinned (.plain (OpenSpec.ofChange tokenNamesSpec)) tokenNamesCard

/-- THE TIED CARD OF 'armplanlaw6.TokenNumbers'. -/
def tokenNumbersCard : Claim7 := { stood := { row := tokenNumbersRow, standIns := [], harness := (true, "d6ede7990721a129ffe1f894a7cbd4b37ba81d80d4b617c4892062194e10c4c8"), looks := true }, kinds := [], alts := [], laidByText := true, laidKinds := [.data, .data, .data, .sentinel, .sentinel], laidTests := true, laidLooks := .later }
def TokenNumbersCardSaid : Prop := Claim7.holds Tryd.pinned (.plain (OpenSpec.ofChange tokenNumbersSpec)) tokenNumbersCard

/-- THE TIED CARD OF 'armplanlaw6.TokenFormats'. -/
def tokenFormatsCard : Claim7 := { stood := { row := tokenFormatsRow, standIns := [], harness := (true, "d6ede7990721a129ffe1f894a7cbd4b37ba81d80d4b617c4892062194e10c4c8"), looks := true }, kinds := [], alts := [], laidByText := true, laidKinds := [.data, .data, .data, .data, .sentinel, .sentinel, .pinned], laidTests := true, laidLooks := .later }
def TokenFormatsCardSaid : Prop := Claim7.holds Tryd.pinned (.plain (OpenSpec.ofChange tokenFormatsSpec)) tokenFormatsCard

/-- THE SECOND FORM's CARD OF 'armplanlaw6.TokenSplits'. -/
def tokenSplitsUptoCard : Claim7 := { stood := { row := tokenSplitsUptoRow, standIns := [], harness := (true, "d6ede7990721a129ffe1f894a7cbd4b37ba81d80d4b617c4892062194e10c4c8"), looks := true }, kinds := [], alts := [], laidByText := true, laidKinds := [.data, .data, .data, .sentinel, .sentinel], laidTests := true, laidLooks := .later }
def TokenSplitsUptoCardSaid : Prop := Claim7.holds Tryd.pinned (.plain (OpenSpec.upto tokenSplitsSpec)) tokenSplitsUptoCard

/-- THE SECOND FORM's CARD OF 'armplanlaw6.TokenRejoins'. -/
def tokenRejoinsUptoCard : Claim7 := { stood := { row := tokenRejoinsUptoRow, standIns := [], harness := (true, "d6ede7990721a129ffe1f894a7cbd4b37ba81d80d4b617c4892062194e10c4c8"), looks := true }, kinds := [], alts := [], laidByText := true, laidKinds := [.data, .data, .data, .sentinel, .sentinel], laidTests := true, laidLooks := .later }
def TokenRejoinsUptoCardSaid : Prop := Claim7.holds Tryd.pinned (.plain (OpenSpec.upto tokenRejoinsSpec)) tokenRejoinsUptoCard

/-- THE SECOND FORM's CARD OF 'armplanlaw6.TokenPlaces'. -/
def tokenPlacesUptoCard : Claim7 := { stood := { row := tokenPlacesUptoRow, standIns := [], harness := (true, "d6ede7990721a129ffe1f894a7cbd4b37ba81d80d4b617c4892062194e10c4c8"), looks := true }, kinds := [], alts := [], laidByText := true, laidKinds := [.data, .data, .data, .sentinel, .sentinel], laidTests := true, laidLooks := .later }
def TokenPlacesUptoCardSaid : Prop := Claim7.holds Tryd.pinned (.plain (OpenSpec.upto tokenPlacesSpec)) tokenPlacesUptoCard

/-- THE SECOND FORM's CARD OF 'armplanlaw6.TokenNearest'. -/
def tokenNearestUptoCard : Claim7 := { stood := { row := tokenNearestUptoRow, standIns := [], harness := (true, "d6ede7990721a129ffe1f894a7cbd4b37ba81d80d4b617c4892062194e10c4c8"), looks := true }, kinds := [], alts := [], laidByText := true, laidKinds := [.data, .data, .data, .sentinel, .sentinel], laidTests := true, laidLooks := .later }
def TokenNearestUptoCardSaid : Prop := Claim7.holds Tryd.pinned (.plain (OpenSpec.upto tokenNearestSpec)) tokenNearestUptoCard

/-- THE SECOND FORM's CARD OF 'armplanlaw6.TokenNames'. -/
def tokenNamesUptoCard : Claim7 := { stood := { row := tokenNamesUptoRow, standIns := [], harness := (true, "d6ede7990721a129ffe1f894a7cbd4b37ba81d80d4b617c4892062194e10c4c8"), looks := true }, kinds := [], alts := [], laidByText := true, laidKinds := [.data, .data, .data, .sentinel, .sentinel], laidTests := true, laidLooks := .later }
def TokenNamesUptoCardSaid : Prop := Claim7.holds Tryd.pinned (.plain (OpenSpec.upto tokenNamesSpec)) tokenNamesUptoCard

/-- THE SECOND FORM's CARD OF 'armplanlaw6.TokenNumbers'. -/
def tokenNumbersUptoCard : Claim7 := { stood := { row := tokenNumbersUptoRow, standIns := [], harness := (true, "d6ede7990721a129ffe1f894a7cbd4b37ba81d80d4b617c4892062194e10c4c8"), looks := true }, kinds := [], alts := [], laidByText := true, laidKinds := [.data, .data, .data, .sentinel, .sentinel], laidTests := true, laidLooks := .later }
def TokenNumbersUptoCardSaid : Prop := Claim7.holds Tryd.pinned (.plain (OpenSpec.upto tokenNumbersSpec)) tokenNumbersUptoCard

/-- THE SECOND FORM's CARD OF 'armplanlaw6.TokenFormats'. -/
def tokenFormatsUptoCard : Claim7 := { stood := { row := tokenFormatsUptoRow, standIns := [], harness := (true, "d6ede7990721a129ffe1f894a7cbd4b37ba81d80d4b617c4892062194e10c4c8"), looks := true }, kinds := [], alts := [], laidByText := true, laidKinds := [.data, .data, .data, .data, .sentinel, .sentinel, .pinned], laidTests := true, laidLooks := .later }
def TokenFormatsUptoCardSaid : Prop := Claim7.holds Tryd.pinned (.plain (OpenSpec.upto tokenFormatsSpec)) tokenFormatsUptoCard
end Rows
end Go.Proofs.YtgligkmpgefbmaaDoor
