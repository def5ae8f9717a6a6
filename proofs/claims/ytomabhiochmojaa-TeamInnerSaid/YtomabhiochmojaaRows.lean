/-
  No cell of these rows narrows 'for every input' (looked for: loops, veiled, ifaces, maps, wideKeys, modest, calm, conditions, laid).
  DERIVED. THE GIVEN ROWS OF THIS SEAT. 6 by the template 'for every input the law returns true; each argument reads behind the call as it read before'; 0 by the template 'total and deterministic' (their statements: YtomabhiochmojaaTotals.lean).
  GIVEN WITH THE SEED: the statements are not yours to turn. If you find one false, say at which input.
  Laid BY PROGRAM, IN A SANDBOX (cutbox-rows.mjs): the forced cells as the released guide's own fill.sh prints them over the translation 12c15894a8793759… (all of the seat's roots in one cut). By AI agents, Wed Nov 11 2026. No macro, syntax, notation, axiom, sorry.
-/
import Derived.Test.YtomabhiochmojaaChecked
import GoSem.Claim
import GoSem.ClaimJoined
import GoSem.ClaimMapViews
import Derived.JoinedTies
import Derived.KernelRfl
namespace Go.Proofs.Ytomabhiochmojaa
/- THE CELL 'sum', in the pinned program and in every row, IS THE sha256 OF THE DUMP (.gsa) THAT YtomabhiochmojaaProg.lean LOADS. Nothing in Lean hashes anything: it is a label: what it is worth is what the hold of that sum in a sandbox is worth. -/
noncomputable def Try.pinned : Pinned := { name := "ytomabhiochmojaa", sum := "12c15894a8793759692a95044bdc02de1a244ef796d7255380f55679f4a3c0c4", checked := Try.checked }
namespace Rows
def none {H : Type} : Left H := { results := [], args := [] }

/-- 'armplanlaw35.TeamJoins': WHATEVER THE INPUT: true; the input reads as it did. -/
def teamJoinsSpec : ChangeSpec := { name := "teamJoins", fn := fun _ => fun
  | [d1, d2, d3, d4, d5] => { results := [.lit (.bool true)], args := [d1, d2, d3, d4, d5] }
  | _ => none }
def teamJoinsRow : OpenClaim := { program := "ytomabhiochmojaa", sum := "12c15894a8793759692a95044bdc02de1a244ef796d7255380f55679f4a3c0c4", func := "armplan/armplanlaw35.TeamJoins", spec := "teamJoins", unfollowed := true, recurses := true, apart := false }
def TeamJoinsSaid : Prop := teamJoinsRow.holds Try.pinned (OpenSpec.ofChange teamJoinsSpec)

/-- ITS FALSE NEIGHBOUR: 'it returns false'. Refute it at one input. -/
def teamJoinsWrong : ChangeSpec := { name := "teamJoins", fn := fun _ => fun
  | [d1, d2, d3, d4, d5] => { results := [.lit (.bool false)], args := [d1, d2, d3, d4, d5] }
  | _ => none }
def TeamJoinsWrongFalsely : Prop := teamJoinsRow.holds Try.pinned (OpenSpec.ofChange teamJoinsWrong)

/-- 'armplanlaw35.TeamMoves': WHATEVER THE INPUT: true; the input reads as it did. -/
def teamMovesSpec : ChangeSpec := { name := "teamMoves", fn := fun _ => fun
  | [d1, d2, d3, d4] => { results := [.lit (.bool true)], args := [d1, d2, d3, d4] }
  | _ => none }
def teamMovesRow : OpenClaim := { program := "ytomabhiochmojaa", sum := "12c15894a8793759692a95044bdc02de1a244ef796d7255380f55679f4a3c0c4", func := "armplan/armplanlaw35.TeamMoves", spec := "teamMoves", unfollowed := true, recurses := true, apart := false }
def TeamMovesSaid : Prop := teamMovesRow.holds Try.pinned (OpenSpec.ofChange teamMovesSpec)

/-- ITS FALSE NEIGHBOUR: 'it returns false'. Refute it at one input. -/
def teamMovesWrong : ChangeSpec := { name := "teamMoves", fn := fun _ => fun
  | [d1, d2, d3, d4] => { results := [.lit (.bool false)], args := [d1, d2, d3, d4] }
  | _ => none }
def TeamMovesWrongFalsely : Prop := teamMovesRow.holds Try.pinned (OpenSpec.ofChange teamMovesWrong)

/-- 'armplanlaw35.TeamApart': WHATEVER THE INPUT: true; the input reads as it did. -/
def teamApartSpec : ChangeSpec := { name := "teamApart", fn := fun _ => fun
  | [d1, d2, d3, d4] => { results := [.lit (.bool true)], args := [d1, d2, d3, d4] }
  | _ => none }
def teamApartRow : OpenClaim := { program := "ytomabhiochmojaa", sum := "12c15894a8793759692a95044bdc02de1a244ef796d7255380f55679f4a3c0c4", func := "armplan/armplanlaw35.TeamApart", spec := "teamApart", unfollowed := true, recurses := true, apart := false }
def TeamApartSaid : Prop := teamApartRow.holds Try.pinned (OpenSpec.ofChange teamApartSpec)

/-- ITS FALSE NEIGHBOUR: 'it returns false'. Refute it at one input. -/
def teamApartWrong : ChangeSpec := { name := "teamApart", fn := fun _ => fun
  | [d1, d2, d3, d4] => { results := [.lit (.bool false)], args := [d1, d2, d3, d4] }
  | _ => none }
def TeamApartWrongFalsely : Prop := teamApartRow.holds Try.pinned (OpenSpec.ofChange teamApartWrong)

/-- 'armplanlaw35.TeamParts': WHATEVER THE INPUT: true; the input reads as it did. -/
def teamPartsSpec : ChangeSpec := { name := "teamParts", fn := fun _ => fun
  | [d1, d2, d3, d4, d5, d6, d7, d8] => { results := [.lit (.bool true)], args := [d1, d2, d3, d4, d5, d6, d7, d8] }
  | _ => none }
def teamPartsRow : OpenClaim := { program := "ytomabhiochmojaa", sum := "12c15894a8793759692a95044bdc02de1a244ef796d7255380f55679f4a3c0c4", func := "armplan/armplanlaw35.TeamParts", spec := "teamParts", unfollowed := true, recurses := true, apart := false }
def TeamPartsSaid : Prop := teamPartsRow.holds Try.pinned (OpenSpec.ofChange teamPartsSpec)

/-- ITS FALSE NEIGHBOUR: 'it returns false'. Refute it at one input. -/
def teamPartsWrong : ChangeSpec := { name := "teamParts", fn := fun _ => fun
  | [d1, d2, d3, d4, d5, d6, d7, d8] => { results := [.lit (.bool false)], args := [d1, d2, d3, d4, d5, d6, d7, d8] }
  | _ => none }
def TeamPartsWrongFalsely : Prop := teamPartsRow.holds Try.pinned (OpenSpec.ofChange teamPartsWrong)

/-- 'armplanlaw35.TeamMapped': WHATEVER THE INPUT: true; the input reads as it did. -/
def teamMappedSpec : ChangeSpec := { name := "teamMapped", fn := fun _ => fun
  | [d1, d2, d3] => { results := [.lit (.bool true)], args := [d1, d2, d3] }
  | _ => none }
def teamMappedRow : OpenClaim := { program := "ytomabhiochmojaa", sum := "12c15894a8793759692a95044bdc02de1a244ef796d7255380f55679f4a3c0c4", func := "armplan/armplanlaw35.TeamMapped", spec := "teamMapped", unfollowed := true, recurses := true, apart := false }
def TeamMappedSaid : Prop := teamMappedRow.holds Try.pinned (OpenSpec.ofChange teamMappedSpec)

/-- ITS FALSE NEIGHBOUR: 'it returns false'. Refute it at one input. -/
def teamMappedWrong : ChangeSpec := { name := "teamMapped", fn := fun _ => fun
  | [d1, d2, d3] => { results := [.lit (.bool false)], args := [d1, d2, d3] }
  | _ => none }
def TeamMappedWrongFalsely : Prop := teamMappedRow.holds Try.pinned (OpenSpec.ofChange teamMappedWrong)

/-- 'armplanlaw35.TeamInner': WHATEVER THE INPUT: true; the input reads as it did. -/
def teamInnerSpec : ChangeSpec := { name := "teamInner", fn := fun _ => fun
  | [d1, d2, d3, d4, d5, d6] => { results := [.lit (.bool true)], args := [d1, d2, d3, d4, d5, d6] }
  | _ => none }
def teamInnerRow : OpenClaim := { program := "ytomabhiochmojaa", sum := "12c15894a8793759692a95044bdc02de1a244ef796d7255380f55679f4a3c0c4", func := "armplan/armplanlaw35.TeamInner", spec := "teamInner", unfollowed := true, recurses := true, apart := false }
def TeamInnerSaid : Prop := teamInnerRow.holds Try.pinned (OpenSpec.ofChange teamInnerSpec)

/-- ITS FALSE NEIGHBOUR: 'it returns false'. Refute it at one input. -/
def teamInnerWrong : ChangeSpec := { name := "teamInner", fn := fun _ => fun
  | [d1, d2, d3, d4, d5, d6] => { results := [.lit (.bool false)], args := [d1, d2, d3, d4, d5, d6] }
  | _ => none }
def TeamInnerWrongFalsely : Prop := teamInnerRow.holds Try.pinned (OpenSpec.ofChange teamInnerWrong)

/- THE SECOND FORM. 'bulk': how many values and letters a reading holds, each counted each time it is reached (what is shared counts as often as it is met; a slice's spare places count too). A statement '..UptoSaid' is the law's where the arguments, and the package variables that the reading takes, are together of bulk at most 1048576: NARROWER than '..Said'. Prove '..Said' where nothing that the law and all that it calls make is longer than what came in: it says more and counts as full. Else prove '..UptoSaid'. A law counts once. -/
mutual
def uptoBulk {H : Type} : DataW H → Nat
  | .lit (.string bytes) => bytes.length + 1
  | .lit _ => 1
  | .nil => 1
  | .ptr d => uptoBulk d + 1
  | .slice elems spare => uptoBulkAll elems + uptoBulkAll spare + 1
  | .agg parts => uptoBulkAll parts + 1
  | .iface _ d => uptoBulk d + 1
  | .map entries => uptoBulkEntries entries + 1
  | .held _ => 1
def uptoBulkAll {H : Type} : List (DataW H) → Nat
  | [] => 0
  | d :: r => uptoBulk d + uptoBulkAll r
def uptoBulkEntries {H : Type} : List (Lit × DataW H) → Nat
  | [] => 0
  | x :: r => uptoBulkEntry x + uptoBulkEntries r
def uptoBulkEntry {H : Type} : Lit × DataW H → Nat
  | (.string bytes, d) => bytes.length + uptoBulk d + 1
  | (_, d) => uptoBulk d + 1
 end
def uptoSmall : (H : Type) → List (DataW H) → Bool := fun _ ds => decide (uptoBulkAll ds ≤ 1048576)
def OpenSpec.upto (s : _root_.Go.ChangeSpec) : _root_.Go.OpenSpec := { _root_.Go.OpenSpec.ofChange s with cond := some uptoSmall }

/-- 'armplanlaw35.TeamJoins', WHERE WHAT IT READS IS OF BULK AT MOST 1048576: true; the input reads as it did. -/
def teamJoinsUptoRow : OpenClaim := { program := "ytomabhiochmojaa", sum := "12c15894a8793759692a95044bdc02de1a244ef796d7255380f55679f4a3c0c4", func := "armplan/armplanlaw35.TeamJoins", spec := "teamJoins", unfollowed := true, recurses := true, apart := false, narrowed := true }
def TeamJoinsUptoSaid : Prop := teamJoinsUptoRow.holds Try.pinned (OpenSpec.upto teamJoinsSpec)

/-- 'armplanlaw35.TeamMoves', WHERE WHAT IT READS IS OF BULK AT MOST 1048576: true; the input reads as it did. -/
def teamMovesUptoRow : OpenClaim := { program := "ytomabhiochmojaa", sum := "12c15894a8793759692a95044bdc02de1a244ef796d7255380f55679f4a3c0c4", func := "armplan/armplanlaw35.TeamMoves", spec := "teamMoves", unfollowed := true, recurses := true, apart := false, narrowed := true }
def TeamMovesUptoSaid : Prop := teamMovesUptoRow.holds Try.pinned (OpenSpec.upto teamMovesSpec)

/-- 'armplanlaw35.TeamApart', WHERE WHAT IT READS IS OF BULK AT MOST 1048576: true; the input reads as it did. -/
def teamApartUptoRow : OpenClaim := { program := "ytomabhiochmojaa", sum := "12c15894a8793759692a95044bdc02de1a244ef796d7255380f55679f4a3c0c4", func := "armplan/armplanlaw35.TeamApart", spec := "teamApart", unfollowed := true, recurses := true, apart := false, narrowed := true }
def TeamApartUptoSaid : Prop := teamApartUptoRow.holds Try.pinned (OpenSpec.upto teamApartSpec)

/-- 'armplanlaw35.TeamParts', WHERE WHAT IT READS IS OF BULK AT MOST 1048576: true; the input reads as it did. -/
def teamPartsUptoRow : OpenClaim := { program := "ytomabhiochmojaa", sum := "12c15894a8793759692a95044bdc02de1a244ef796d7255380f55679f4a3c0c4", func := "armplan/armplanlaw35.TeamParts", spec := "teamParts", unfollowed := true, recurses := true, apart := false, narrowed := true }
def TeamPartsUptoSaid : Prop := teamPartsUptoRow.holds Try.pinned (OpenSpec.upto teamPartsSpec)

/-- 'armplanlaw35.TeamMapped', WHERE WHAT IT READS IS OF BULK AT MOST 1048576: true; the input reads as it did. -/
def teamMappedUptoRow : OpenClaim := { program := "ytomabhiochmojaa", sum := "12c15894a8793759692a95044bdc02de1a244ef796d7255380f55679f4a3c0c4", func := "armplan/armplanlaw35.TeamMapped", spec := "teamMapped", unfollowed := true, recurses := true, apart := false, narrowed := true }
def TeamMappedUptoSaid : Prop := teamMappedUptoRow.holds Try.pinned (OpenSpec.upto teamMappedSpec)

/-- 'armplanlaw35.TeamInner', WHERE WHAT IT READS IS OF BULK AT MOST 1048576: true; the input reads as it did. -/
def teamInnerUptoRow : OpenClaim := { program := "ytomabhiochmojaa", sum := "12c15894a8793759692a95044bdc02de1a244ef796d7255380f55679f4a3c0c4", func := "armplan/armplanlaw35.TeamInner", spec := "teamInner", unfollowed := true, recurses := true, apart := false, narrowed := true }
def TeamInnerUptoSaid : Prop := teamInnerUptoRow.holds Try.pinned (OpenSpec.upto teamInnerSpec)

end Rows
end Go.Proofs.Ytomabhiochmojaa
