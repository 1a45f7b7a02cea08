/-
  DERIVED. GIVEN WITH THE SEED: THE CARDS: each row of YtdnebeaeiimjlaaGreatDoorRows.lean that lists a variable, with what it lists TIED to the program's text (the seventh form; the later family's looks); each row that meets fmt, with fmt's text TOLD by the authors' own Lean function (tested against real Go, not proved from fmt's source: count such statements apart). THE CARD IS WHAT COUNTS. Prove the row's statement (the work); the ties are given (YtdnebeaeiimjlaaGreatDoorTie.lean); close each card by the builder's one call (the guide's Derived/Test/ToyasCard.lean, 'card_holds'). Laid BY PROGRAM, IN A SANDBOX (cutbox-door.mjs). By AI agents, Wed Nov 11 2026. No macro, syntax, notation, axiom, sorry.
-/
import Derived.Test.YtdnebeaeiimjlaaGreatDoorRows
import GoSem.ClaimSeven
namespace Go.Proofs.YtdnebeaeiimjlaaGreatDoor
namespace Rows

/-- THE TIED CARD OF 'armaturelaw28.ProjectComposes'. -/
def projectComposesCard : Claim7 := { stood := { row := projectComposesRow, standIns := [], harness := (true, "76167022981e6489b4d4c41d623b7faa56cd28a2d8fc534df77799f8032ad4c6"), looks := true }, kinds := [], alts := [], laidByText := true, laidKinds := [.data, .data, .data], laidTests := true, laidLooks := .later }
def ProjectComposesCardSaid : Prop := Claim7.holds Tryz.pinned (.plain (OpenSpec.ofChange projectComposesSpec)) projectComposesCard

/-- THE SECOND FORM's CARD OF 'armaturelaw28.ProjectComposes'. -/
def projectComposesUptoCard : Claim7 := { stood := { row := projectComposesUptoRow, standIns := [], harness := (true, "76167022981e6489b4d4c41d623b7faa56cd28a2d8fc534df77799f8032ad4c6"), looks := true }, kinds := [], alts := [], laidByText := true, laidKinds := [.data, .data, .data], laidTests := true, laidLooks := .later }
def ProjectComposesUptoCardSaid : Prop := Claim7.holds Tryz.pinned (.plain (OpenSpec.upto projectComposesSpec)) projectComposesUptoCard
end Rows
end Go.Proofs.YtdnebeaeiimjlaaGreatDoor
