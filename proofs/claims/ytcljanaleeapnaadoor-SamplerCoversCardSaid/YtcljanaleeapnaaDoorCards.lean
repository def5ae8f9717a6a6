/-
  DERIVED. GIVEN WITH THE SEED: THE CARDS: each row of YtcljanaleeapnaaDoorRows.lean that lists a variable, with what it lists TIED to the program's text (the seventh form; the later family's looks); each row that meets fmt, with fmt's text TOLD by the authors' own Lean function (tested against real Go, not proved from fmt's source: count such statements apart). THE CARD IS WHAT COUNTS. Prove the row's statement (the work); the ties are given (YtcljanaleeapnaaDoorTie.lean); close each card by the builder's one call (the guide's Derived/Test/ToyasCard.lean, 'card_holds'). Laid BY PROGRAM, IN A SANDBOX (cutbox-door.mjs). By AI agents, Wed Nov 11 2026. No macro, syntax, notation, axiom, sorry.
-/
import Derived.Test.YtcljanaleeapnaaDoorRows
import GoSem.ClaimSeven
namespace Go.Proofs.YtcljanaleeapnaaDoor
namespace Rows

/-- THE TIED CARD OF 'armplanlaw23.SamplerRadicals'. -/
def samplerRadicalsCard : Claim7 := { stood := { row := samplerRadicalsRow, standIns := [], harness := (true, "e34b7d77a189c755a0b9fcd7a79c5c435a25c4c32d642872533623cfe221eabc"), looks := false }, kinds := [], alts := [], laidByText := true, laidKinds := [.data], laidTests := true, laidLooks := .later }
def SamplerRadicalsCardSaid : Prop := Claim7.holds Tryd.pinned (.plain (OpenSpec.ofChange samplerRadicalsSpec)) samplerRadicalsCard

/-- THE TIED CARD OF 'armplanlaw23.SamplerStrata'. -/
def samplerStrataCard : Claim7 := { stood := { row := samplerStrataRow, standIns := [], harness := (true, "e34b7d77a189c755a0b9fcd7a79c5c435a25c4c32d642872533623cfe221eabc"), looks := false }, kinds := [], alts := [], laidByText := true, laidKinds := [.data], laidTests := true, laidLooks := .later }
def SamplerStrataCardSaid : Prop := Claim7.holds Tryd.pinned (.plain (OpenSpec.ofChange samplerStrataSpec)) samplerStrataCard

/-- THE TIED CARD OF 'armplanlaw23.SamplerNet'. -/
def samplerNetCard : Claim7 := { stood := { row := samplerNetRow, standIns := [], harness := (true, "e34b7d77a189c755a0b9fcd7a79c5c435a25c4c32d642872533623cfe221eabc"), looks := false }, kinds := [], alts := [], laidByText := true, laidKinds := [.data], laidTests := true, laidLooks := .later }
def SamplerNetCardSaid : Prop := Claim7.holds Tryd.pinned (.plain (OpenSpec.ofChange samplerNetSpec)) samplerNetCard

/-- THE TIED CARD OF 'armplanlaw23.SamplerCovers'. -/
def samplerCoversCard : Claim7 := { stood := { row := samplerCoversRow, standIns := [], harness := (true, "e34b7d77a189c755a0b9fcd7a79c5c435a25c4c32d642872533623cfe221eabc"), looks := false }, kinds := [], alts := [], laidByText := true, laidKinds := [.data], laidTests := true, laidLooks := .later }
def SamplerCoversCardSaid : Prop := Claim7.holds Tryd.pinned (.plain (OpenSpec.ofChange samplerCoversSpec)) samplerCoversCard

/-- THE TIED CARD OF 'armplanlaw23.SamplerSpreads'. -/
def samplerSpreadsCard : Claim7 := { stood := { row := samplerSpreadsRow, standIns := [], harness := (true, "e34b7d77a189c755a0b9fcd7a79c5c435a25c4c32d642872533623cfe221eabc"), looks := false }, kinds := [], alts := [], laidByText := true, laidKinds := [.data], laidTests := true, laidLooks := .later }
def SamplerSpreadsCardSaid : Prop := Claim7.holds Tryd.pinned (.plain (OpenSpec.ofChange samplerSpreadsSpec)) samplerSpreadsCard

/-- THE TIED CARD OF 'armplanlaw23.SamplerMonotone'. -/
def samplerMonotoneCard : Claim7 := { stood := { row := samplerMonotoneRow, standIns := [], harness := (true, "e34b7d77a189c755a0b9fcd7a79c5c435a25c4c32d642872533623cfe221eabc"), looks := false }, kinds := [], alts := [], laidByText := true, laidKinds := [.data], laidTests := true, laidLooks := .later }
def SamplerMonotoneCardSaid : Prop := Claim7.holds Tryd.pinned (.plain (OpenSpec.ofChange samplerMonotoneSpec)) samplerMonotoneCard

/-- THE TIED CARD OF 'armplanlaw23.SamplerWords'. -/
def samplerWordsCard : Claim7 := { stood := { row := samplerWordsRow, standIns := [], harness := (true, "e34b7d77a189c755a0b9fcd7a79c5c435a25c4c32d642872533623cfe221eabc"), looks := false }, kinds := [], alts := [], laidByText := true, laidKinds := [.data], laidTests := true, laidLooks := .later }
def SamplerWordsCardSaid : Prop := Claim7.holds Tryd.pinned (.plain (OpenSpec.ofChange samplerWordsSpec)) samplerWordsCard

/-- THE TIED CARD OF 'armplanlaw23.SamplerApart'. -/
def samplerApartCard : Claim7 := { stood := { row := samplerApartRow, standIns := [], harness := (true, "e34b7d77a189c755a0b9fcd7a79c5c435a25c4c32d642872533623cfe221eabc"), looks := false }, kinds := [], alts := [], laidByText := true, laidKinds := [.data], laidTests := true, laidLooks := .later }
def SamplerApartCardSaid : Prop := Claim7.holds Tryd.pinned (.plain (OpenSpec.ofChange samplerApartSpec)) samplerApartCard

/-- THE TIED CARD OF 'armplanlaw23.SamplerSamples'. -/
def samplerSamplesCard : Claim7 := { stood := { row := samplerSamplesRow, standIns := [], harness := (true, "e34b7d77a189c755a0b9fcd7a79c5c435a25c4c32d642872533623cfe221eabc"), looks := false }, kinds := [], alts := [], laidByText := true, laidKinds := [.data], laidTests := true, laidLooks := .later }
def SamplerSamplesCardSaid : Prop := Claim7.holds Tryd.pinned (.plain (OpenSpec.ofChange samplerSamplesSpec)) samplerSamplesCard

/-- THE TIED CARD OF 'armplanlaw23.SamplerWithin'. -/
def samplerWithinCard : Claim7 := { stood := { row := samplerWithinRow, standIns := [], harness := (true, "e34b7d77a189c755a0b9fcd7a79c5c435a25c4c32d642872533623cfe221eabc"), looks := false }, kinds := [], alts := [], laidByText := true, laidKinds := [.data], laidTests := true, laidLooks := .later }
def SamplerWithinCardSaid : Prop := Claim7.holds Tryd.pinned (.plain (OpenSpec.ofChange samplerWithinSpec)) samplerWithinCard

/-- THE SECOND FORM's CARD OF 'armplanlaw23.SamplerRadicals'. -/
def samplerRadicalsUptoCard : Claim7 := { stood := { row := samplerRadicalsUptoRow, standIns := [], harness := (true, "e34b7d77a189c755a0b9fcd7a79c5c435a25c4c32d642872533623cfe221eabc"), looks := false }, kinds := [], alts := [], laidByText := true, laidKinds := [.data], laidTests := true, laidLooks := .later }
def SamplerRadicalsUptoCardSaid : Prop := Claim7.holds Tryd.pinned (.plain (OpenSpec.upto samplerRadicalsSpec)) samplerRadicalsUptoCard

/-- THE SECOND FORM's CARD OF 'armplanlaw23.SamplerStrata'. -/
def samplerStrataUptoCard : Claim7 := { stood := { row := samplerStrataUptoRow, standIns := [], harness := (true, "e34b7d77a189c755a0b9fcd7a79c5c435a25c4c32d642872533623cfe221eabc"), looks := false }, kinds := [], alts := [], laidByText := true, laidKinds := [.data], laidTests := true, laidLooks := .later }
def SamplerStrataUptoCardSaid : Prop := Claim7.holds Tryd.pinned (.plain (OpenSpec.upto samplerStrataSpec)) samplerStrataUptoCard

/-- THE SECOND FORM's CARD OF 'armplanlaw23.SamplerNet'. -/
def samplerNetUptoCard : Claim7 := { stood := { row := samplerNetUptoRow, standIns := [], harness := (true, "e34b7d77a189c755a0b9fcd7a79c5c435a25c4c32d642872533623cfe221eabc"), looks := false }, kinds := [], alts := [], laidByText := true, laidKinds := [.data], laidTests := true, laidLooks := .later }
def SamplerNetUptoCardSaid : Prop := Claim7.holds Tryd.pinned (.plain (OpenSpec.upto samplerNetSpec)) samplerNetUptoCard

/-- THE SECOND FORM's CARD OF 'armplanlaw23.SamplerCovers'. -/
def samplerCoversUptoCard : Claim7 := { stood := { row := samplerCoversUptoRow, standIns := [], harness := (true, "e34b7d77a189c755a0b9fcd7a79c5c435a25c4c32d642872533623cfe221eabc"), looks := false }, kinds := [], alts := [], laidByText := true, laidKinds := [.data], laidTests := true, laidLooks := .later }
def SamplerCoversUptoCardSaid : Prop := Claim7.holds Tryd.pinned (.plain (OpenSpec.upto samplerCoversSpec)) samplerCoversUptoCard

/-- THE SECOND FORM's CARD OF 'armplanlaw23.SamplerSpreads'. -/
def samplerSpreadsUptoCard : Claim7 := { stood := { row := samplerSpreadsUptoRow, standIns := [], harness := (true, "e34b7d77a189c755a0b9fcd7a79c5c435a25c4c32d642872533623cfe221eabc"), looks := false }, kinds := [], alts := [], laidByText := true, laidKinds := [.data], laidTests := true, laidLooks := .later }
def SamplerSpreadsUptoCardSaid : Prop := Claim7.holds Tryd.pinned (.plain (OpenSpec.upto samplerSpreadsSpec)) samplerSpreadsUptoCard

/-- THE SECOND FORM's CARD OF 'armplanlaw23.SamplerMonotone'. -/
def samplerMonotoneUptoCard : Claim7 := { stood := { row := samplerMonotoneUptoRow, standIns := [], harness := (true, "e34b7d77a189c755a0b9fcd7a79c5c435a25c4c32d642872533623cfe221eabc"), looks := false }, kinds := [], alts := [], laidByText := true, laidKinds := [.data], laidTests := true, laidLooks := .later }
def SamplerMonotoneUptoCardSaid : Prop := Claim7.holds Tryd.pinned (.plain (OpenSpec.upto samplerMonotoneSpec)) samplerMonotoneUptoCard

/-- THE SECOND FORM's CARD OF 'armplanlaw23.SamplerWords'. -/
def samplerWordsUptoCard : Claim7 := { stood := { row := samplerWordsUptoRow, standIns := [], harness := (true, "e34b7d77a189c755a0b9fcd7a79c5c435a25c4c32d642872533623cfe221eabc"), looks := false }, kinds := [], alts := [], laidByText := true, laidKinds := [.data], laidTests := true, laidLooks := .later }
def SamplerWordsUptoCardSaid : Prop := Claim7.holds Tryd.pinned (.plain (OpenSpec.upto samplerWordsSpec)) samplerWordsUptoCard

/-- THE SECOND FORM's CARD OF 'armplanlaw23.SamplerApart'. -/
def samplerApartUptoCard : Claim7 := { stood := { row := samplerApartUptoRow, standIns := [], harness := (true, "e34b7d77a189c755a0b9fcd7a79c5c435a25c4c32d642872533623cfe221eabc"), looks := false }, kinds := [], alts := [], laidByText := true, laidKinds := [.data], laidTests := true, laidLooks := .later }
def SamplerApartUptoCardSaid : Prop := Claim7.holds Tryd.pinned (.plain (OpenSpec.upto samplerApartSpec)) samplerApartUptoCard

/-- THE SECOND FORM's CARD OF 'armplanlaw23.SamplerSamples'. -/
def samplerSamplesUptoCard : Claim7 := { stood := { row := samplerSamplesUptoRow, standIns := [], harness := (true, "e34b7d77a189c755a0b9fcd7a79c5c435a25c4c32d642872533623cfe221eabc"), looks := false }, kinds := [], alts := [], laidByText := true, laidKinds := [.data], laidTests := true, laidLooks := .later }
def SamplerSamplesUptoCardSaid : Prop := Claim7.holds Tryd.pinned (.plain (OpenSpec.upto samplerSamplesSpec)) samplerSamplesUptoCard

/-- THE SECOND FORM's CARD OF 'armplanlaw23.SamplerWithin'. -/
def samplerWithinUptoCard : Claim7 := { stood := { row := samplerWithinUptoRow, standIns := [], harness := (true, "e34b7d77a189c755a0b9fcd7a79c5c435a25c4c32d642872533623cfe221eabc"), looks := false }, kinds := [], alts := [], laidByText := true, laidKinds := [.data], laidTests := true, laidLooks := .later }
def SamplerWithinUptoCardSaid : Prop := Claim7.holds Tryd.pinned (.plain (OpenSpec.upto samplerWithinSpec)) samplerWithinUptoCard
end Rows
end Go.Proofs.YtcljanaleeapnaaDoor
