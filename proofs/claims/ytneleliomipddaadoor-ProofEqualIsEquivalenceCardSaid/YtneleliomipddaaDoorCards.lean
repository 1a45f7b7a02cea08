/-
  DERIVED. GIVEN WITH THE SEED: THE CARDS: each row of YtneleliomipddaaDoorRows.lean that lists a variable, with what it lists TIED to the program's text (the seventh form; the later family's looks); each row that meets fmt, with fmt's text TOLD by the authors' own Lean function (tested against real Go, not proved from fmt's source: count such statements apart). THE CARD IS WHAT COUNTS. Prove the row's statement (the work); the ties are given (YtneleliomipddaaDoorTie.lean); close each card by the builder's one call (the guide's Derived/Test/ToyasCard.lean, 'card_holds'). Laid BY PROGRAM, IN A SANDBOX (cutbox-door.mjs). By AI agents, Wed Nov 11 2026. No macro, syntax, notation, axiom, sorry.
-/
import Derived.Test.YtneleliomipddaaDoorRows
import GoSem.ClaimSeven
namespace Go.Proofs.YtneleliomipddaaDoor
namespace Rows

/-- THE TIED CARD OF 'armaturelaw22.ProofRoundTrip'. -/
def proofRoundTripCard : Claim7 := { stood := { row := proofRoundTripRow, standIns := [], harness := (true, "acfd1e87da08a19e971d612d7ae770467c727232302ac133e2c847066f276185"), looks := true }, kinds := [], alts := [], laidByText := true, laidKinds := [.data, .data, .data, .data, .sentinel, .sentinel, .pinned], laidTests := true, laidLooks := .later }
def ProofRoundTripCardSaid : Prop := Claim7.holds Tryd.pinned (.plain (OpenSpec.ofChange proofRoundTripSpec)) proofRoundTripCard

/-- THE TIED CARD OF 'armaturelaw22.ProofDecodesOnlyTexts'. -/
def proofDecodesOnlyTextsCard : Claim7 := { stood := { row := proofDecodesOnlyTextsRow, standIns := [], harness := (true, "acfd1e87da08a19e971d612d7ae770467c727232302ac133e2c847066f276185"), looks := true }, kinds := [], alts := [], laidByText := true, laidKinds := [.data, .data, .data, .data, .sentinel, .sentinel, .pinned], laidTests := true, laidLooks := .later }
def ProofDecodesOnlyTextsCardSaid : Prop := Claim7.holds Tryd.pinned (.plain (OpenSpec.ofChange proofDecodesOnlyTextsSpec)) proofDecodesOnlyTextsCard

/-- THE TIED CARD OF 'armaturelaw22.ProofDetectsCorruption'. -/
def proofDetectsCorruptionCard : Claim7 := { stood := { row := proofDetectsCorruptionRow, standIns := [], harness := (true, "acfd1e87da08a19e971d612d7ae770467c727232302ac133e2c847066f276185"), looks := true }, kinds := [], alts := [], laidByText := true, laidKinds := [.data, .data, .data, .data, .sentinel, .sentinel, .pinned], laidTests := true, laidLooks := .later }
def ProofDetectsCorruptionCardSaid : Prop := Claim7.holds Tryd.pinned (.plain (OpenSpec.ofChange proofDetectsCorruptionSpec)) proofDetectsCorruptionCard

/-- THE TIED CARD OF 'armaturelaw22.ProofPrefixes'. -/
def proofPrefixesCard : Claim7 := { stood := { row := proofPrefixesRow, standIns := [], harness := (true, "acfd1e87da08a19e971d612d7ae770467c727232302ac133e2c847066f276185"), looks := true }, kinds := [], alts := [], laidByText := true, laidKinds := [.data, .data, .data, .data, .sentinel, .sentinel, .pinned], laidTests := true, laidLooks := .later }
def ProofPrefixesCardSaid : Prop := Claim7.holds Tryd.pinned (.plain (OpenSpec.ofChange proofPrefixesSpec)) proofPrefixesCard

/-- THE TIED CARD OF 'armaturelaw22.ProofMoreVariables'. -/
def proofMoreVariablesCard : Claim7 := { stood := { row := proofMoreVariablesRow, standIns := [], harness := (true, "acfd1e87da08a19e971d612d7ae770467c727232302ac133e2c847066f276185"), looks := true }, kinds := [], alts := [], laidByText := true, laidKinds := [.data, .data, .data, .data, .sentinel, .sentinel, .pinned], laidTests := true, laidLooks := .later }
def ProofMoreVariablesCardSaid : Prop := Claim7.holds Tryd.pinned (.plain (OpenSpec.ofChange proofMoreVariablesSpec)) proofMoreVariablesCard

/-- THE TIED CARD OF 'armaturelaw22.ProofShifts'. -/
def proofShiftsCard : Claim7 := { stood := { row := proofShiftsRow, standIns := [], harness := (true, "acfd1e87da08a19e971d612d7ae770467c727232302ac133e2c847066f276185"), looks := true }, kinds := [], alts := [], laidByText := true, laidKinds := [.data, .data, .data, .data, .sentinel, .sentinel, .pinned], laidTests := true, laidLooks := .later }
def ProofShiftsCardSaid : Prop := Claim7.holds Tryd.pinned (.plain (OpenSpec.ofChange proofShiftsSpec)) proofShiftsCard

/-- THE TIED CARD OF 'armaturelaw22.ProofEqualIsEquivalence'. -/
def proofEqualIsEquivalenceCard : Claim7 := { stood := { row := proofEqualIsEquivalenceRow, standIns := [], harness := (true, "acfd1e87da08a19e971d612d7ae770467c727232302ac133e2c847066f276185"), looks := true }, kinds := [], alts := [], laidByText := true, laidKinds := [.data, .data, .data, .data, .sentinel, .sentinel, .pinned], laidTests := true, laidLooks := .later }
def ProofEqualIsEquivalenceCardSaid : Prop := Claim7.holds Tryd.pinned (.plain (OpenSpec.ofChange proofEqualIsEquivalenceSpec)) proofEqualIsEquivalenceCard

/-- THE SECOND FORM's CARD OF 'armaturelaw22.ProofRoundTrip'. -/
def proofRoundTripUptoCard : Claim7 := { stood := { row := proofRoundTripUptoRow, standIns := [], harness := (true, "acfd1e87da08a19e971d612d7ae770467c727232302ac133e2c847066f276185"), looks := true }, kinds := [], alts := [], laidByText := true, laidKinds := [.data, .data, .data, .data, .sentinel, .sentinel, .pinned], laidTests := true, laidLooks := .later }
def ProofRoundTripUptoCardSaid : Prop := Claim7.holds Tryd.pinned (.plain (OpenSpec.upto proofRoundTripSpec)) proofRoundTripUptoCard

/-- THE SECOND FORM's CARD OF 'armaturelaw22.ProofDecodesOnlyTexts'. -/
def proofDecodesOnlyTextsUptoCard : Claim7 := { stood := { row := proofDecodesOnlyTextsUptoRow, standIns := [], harness := (true, "acfd1e87da08a19e971d612d7ae770467c727232302ac133e2c847066f276185"), looks := true }, kinds := [], alts := [], laidByText := true, laidKinds := [.data, .data, .data, .data, .sentinel, .sentinel, .pinned], laidTests := true, laidLooks := .later }
def ProofDecodesOnlyTextsUptoCardSaid : Prop := Claim7.holds Tryd.pinned (.plain (OpenSpec.upto proofDecodesOnlyTextsSpec)) proofDecodesOnlyTextsUptoCard

/-- THE SECOND FORM's CARD OF 'armaturelaw22.ProofDetectsCorruption'. -/
def proofDetectsCorruptionUptoCard : Claim7 := { stood := { row := proofDetectsCorruptionUptoRow, standIns := [], harness := (true, "acfd1e87da08a19e971d612d7ae770467c727232302ac133e2c847066f276185"), looks := true }, kinds := [], alts := [], laidByText := true, laidKinds := [.data, .data, .data, .data, .sentinel, .sentinel, .pinned], laidTests := true, laidLooks := .later }
def ProofDetectsCorruptionUptoCardSaid : Prop := Claim7.holds Tryd.pinned (.plain (OpenSpec.upto proofDetectsCorruptionSpec)) proofDetectsCorruptionUptoCard

/-- THE SECOND FORM's CARD OF 'armaturelaw22.ProofPrefixes'. -/
def proofPrefixesUptoCard : Claim7 := { stood := { row := proofPrefixesUptoRow, standIns := [], harness := (true, "acfd1e87da08a19e971d612d7ae770467c727232302ac133e2c847066f276185"), looks := true }, kinds := [], alts := [], laidByText := true, laidKinds := [.data, .data, .data, .data, .sentinel, .sentinel, .pinned], laidTests := true, laidLooks := .later }
def ProofPrefixesUptoCardSaid : Prop := Claim7.holds Tryd.pinned (.plain (OpenSpec.upto proofPrefixesSpec)) proofPrefixesUptoCard

/-- THE SECOND FORM's CARD OF 'armaturelaw22.ProofMoreVariables'. -/
def proofMoreVariablesUptoCard : Claim7 := { stood := { row := proofMoreVariablesUptoRow, standIns := [], harness := (true, "acfd1e87da08a19e971d612d7ae770467c727232302ac133e2c847066f276185"), looks := true }, kinds := [], alts := [], laidByText := true, laidKinds := [.data, .data, .data, .data, .sentinel, .sentinel, .pinned], laidTests := true, laidLooks := .later }
def ProofMoreVariablesUptoCardSaid : Prop := Claim7.holds Tryd.pinned (.plain (OpenSpec.upto proofMoreVariablesSpec)) proofMoreVariablesUptoCard

/-- THE SECOND FORM's CARD OF 'armaturelaw22.ProofShifts'. -/
def proofShiftsUptoCard : Claim7 := { stood := { row := proofShiftsUptoRow, standIns := [], harness := (true, "acfd1e87da08a19e971d612d7ae770467c727232302ac133e2c847066f276185"), looks := true }, kinds := [], alts := [], laidByText := true, laidKinds := [.data, .data, .data, .data, .sentinel, .sentinel, .pinned], laidTests := true, laidLooks := .later }
def ProofShiftsUptoCardSaid : Prop := Claim7.holds Tryd.pinned (.plain (OpenSpec.upto proofShiftsSpec)) proofShiftsUptoCard

/-- THE SECOND FORM's CARD OF 'armaturelaw22.ProofEqualIsEquivalence'. -/
def proofEqualIsEquivalenceUptoCard : Claim7 := { stood := { row := proofEqualIsEquivalenceUptoRow, standIns := [], harness := (true, "acfd1e87da08a19e971d612d7ae770467c727232302ac133e2c847066f276185"), looks := true }, kinds := [], alts := [], laidByText := true, laidKinds := [.data, .data, .data, .data, .sentinel, .sentinel, .pinned], laidTests := true, laidLooks := .later }
def ProofEqualIsEquivalenceUptoCardSaid : Prop := Claim7.holds Tryd.pinned (.plain (OpenSpec.upto proofEqualIsEquivalenceSpec)) proofEqualIsEquivalenceUptoCard
end Rows
end Go.Proofs.YtneleliomipddaaDoor
