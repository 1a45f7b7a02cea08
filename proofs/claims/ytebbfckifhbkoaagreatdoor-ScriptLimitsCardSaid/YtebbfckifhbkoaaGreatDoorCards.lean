/-
  DERIVED. GIVEN WITH THE SEED: THE CARDS: each row of YtebbfckifhbkoaaGreatDoorRows.lean that lists a variable, with what it lists TIED to the program's text (the seventh form; the later family's looks); each row that meets fmt, with fmt's text TOLD by the authors' own Lean function (tested against real Go, not proved from fmt's source: count such statements apart). THE CARD IS WHAT COUNTS. Prove the row's statement (the work); the ties are given (YtebbfckifhbkoaaGreatDoorTie.lean); close each card by the builder's one call (the guide's Derived/Test/ToyasCard.lean, 'card_holds'). Laid BY PROGRAM, IN A SANDBOX (cutbox-door.mjs). By AI agents, Wed Nov 11 2026. No macro, syntax, notation, axiom, sorry.
-/
import Derived.Test.YtebbfckifhbkoaaGreatDoorRows
import GoSem.ClaimSeven
namespace Go.Proofs.YtebbfckifhbkoaaGreatDoor
namespace Rows

/-- THE TIED CARD OF 'armaturelaw36.ScriptMatchesReference'. -/
def scriptMatchesReferenceCard : Claim7 := { stood := { row := scriptMatchesReferenceRow, standIns := [], harness := (true, "fde00d129ed1f988b30accdb49446c73fca70c39d2e86a2c4efcc4d4489cc606"), looks := true }, kinds := [], alts := [], laidByText := true, laidKinds := [.data, .pinned, .data, .sentinel, .sentinel, .data, .data, .data, .data], laidTests := true, laidLooks := .later }
def ScriptMatchesReferenceCardSaid : Prop := Claim7.holds Tryz.pinned (.plain (OpenSpec.ofChange scriptMatchesReferenceSpec)) scriptMatchesReferenceCard

/-- THE TIED CARD OF 'armaturelaw36.ScriptRoundTrip'. -/
def scriptRoundTripCard : Claim7 := { stood := { row := scriptRoundTripRow, standIns := [], harness := (true, "fde00d129ed1f988b30accdb49446c73fca70c39d2e86a2c4efcc4d4489cc606"), looks := true }, kinds := [], alts := [], laidByText := true, laidKinds := [.data, .pinned, .data, .sentinel, .sentinel, .data, .data, .data, .data], laidTests := true, laidLooks := .later }
def ScriptRoundTripCardSaid : Prop := Claim7.holds Tryz.pinned (.plain (OpenSpec.ofChange scriptRoundTripSpec)) scriptRoundTripCard

/-- THE TIED CARD OF 'armaturelaw36.ScriptConcatenation'. -/
def scriptConcatenationCard : Claim7 := { stood := { row := scriptConcatenationRow, standIns := [], harness := (true, "fde00d129ed1f988b30accdb49446c73fca70c39d2e86a2c4efcc4d4489cc606"), looks := true }, kinds := [], alts := [], laidByText := true, laidKinds := [.data, .pinned, .data, .sentinel, .sentinel, .data, .data, .data, .data], laidTests := true, laidLooks := .later }
def ScriptConcatenationCardSaid : Prop := Claim7.holds Tryz.pinned (.plain (OpenSpec.ofChange scriptConcatenationSpec)) scriptConcatenationCard

/-- THE TIED CARD OF 'armaturelaw36.ScriptIgnored'. -/
def scriptIgnoredCard : Claim7 := { stood := { row := scriptIgnoredRow, standIns := [], harness := (true, "fde00d129ed1f988b30accdb49446c73fca70c39d2e86a2c4efcc4d4489cc606"), looks := true }, kinds := [], alts := [], laidByText := true, laidKinds := [.data, .pinned, .data, .sentinel, .sentinel, .data, .data, .data, .data], laidTests := true, laidLooks := .later }
def ScriptIgnoredCardSaid : Prop := Claim7.holds Tryz.pinned (.plain (OpenSpec.ofChange scriptIgnoredSpec)) scriptIgnoredCard

/-- THE TIED CARD OF 'armaturelaw36.ScriptFirstError'. -/
def scriptFirstErrorCard : Claim7 := { stood := { row := scriptFirstErrorRow, standIns := [], harness := (true, "fde00d129ed1f988b30accdb49446c73fca70c39d2e86a2c4efcc4d4489cc606"), looks := true }, kinds := [], alts := [], laidByText := true, laidKinds := [.data, .pinned, .data, .sentinel, .sentinel, .data, .data, .data, .data], laidTests := true, laidLooks := .later }
def ScriptFirstErrorCardSaid : Prop := Claim7.holds Tryz.pinned (.plain (OpenSpec.ofChange scriptFirstErrorSpec)) scriptFirstErrorCard

/-- THE TIED CARD OF 'armaturelaw36.ScriptLimits'. -/
def scriptLimitsCard : Claim7 := { stood := { row := scriptLimitsRow, standIns := [], harness := (true, "fde00d129ed1f988b30accdb49446c73fca70c39d2e86a2c4efcc4d4489cc606"), looks := true }, kinds := [], alts := [], laidByText := true, laidKinds := [.data, .pinned, .data, .sentinel, .sentinel, .data, .data, .data, .data], laidTests := true, laidLooks := .later }
def ScriptLimitsCardSaid : Prop := Claim7.holds Tryz.pinned (.plain (OpenSpec.ofChange scriptLimitsSpec)) scriptLimitsCard

/-- THE SECOND FORM's CARD OF 'armaturelaw36.ScriptMatchesReference'. -/
def scriptMatchesReferenceUptoCard : Claim7 := { stood := { row := scriptMatchesReferenceUptoRow, standIns := [], harness := (true, "fde00d129ed1f988b30accdb49446c73fca70c39d2e86a2c4efcc4d4489cc606"), looks := true }, kinds := [], alts := [], laidByText := true, laidKinds := [.data, .pinned, .data, .sentinel, .sentinel, .data, .data, .data, .data], laidTests := true, laidLooks := .later }
def ScriptMatchesReferenceUptoCardSaid : Prop := Claim7.holds Tryz.pinned (.plain (OpenSpec.upto scriptMatchesReferenceSpec)) scriptMatchesReferenceUptoCard

/-- THE SECOND FORM's CARD OF 'armaturelaw36.ScriptRoundTrip'. -/
def scriptRoundTripUptoCard : Claim7 := { stood := { row := scriptRoundTripUptoRow, standIns := [], harness := (true, "fde00d129ed1f988b30accdb49446c73fca70c39d2e86a2c4efcc4d4489cc606"), looks := true }, kinds := [], alts := [], laidByText := true, laidKinds := [.data, .pinned, .data, .sentinel, .sentinel, .data, .data, .data, .data], laidTests := true, laidLooks := .later }
def ScriptRoundTripUptoCardSaid : Prop := Claim7.holds Tryz.pinned (.plain (OpenSpec.upto scriptRoundTripSpec)) scriptRoundTripUptoCard

/-- THE SECOND FORM's CARD OF 'armaturelaw36.ScriptConcatenation'. -/
def scriptConcatenationUptoCard : Claim7 := { stood := { row := scriptConcatenationUptoRow, standIns := [], harness := (true, "fde00d129ed1f988b30accdb49446c73fca70c39d2e86a2c4efcc4d4489cc606"), looks := true }, kinds := [], alts := [], laidByText := true, laidKinds := [.data, .pinned, .data, .sentinel, .sentinel, .data, .data, .data, .data], laidTests := true, laidLooks := .later }
def ScriptConcatenationUptoCardSaid : Prop := Claim7.holds Tryz.pinned (.plain (OpenSpec.upto scriptConcatenationSpec)) scriptConcatenationUptoCard

/-- THE SECOND FORM's CARD OF 'armaturelaw36.ScriptIgnored'. -/
def scriptIgnoredUptoCard : Claim7 := { stood := { row := scriptIgnoredUptoRow, standIns := [], harness := (true, "fde00d129ed1f988b30accdb49446c73fca70c39d2e86a2c4efcc4d4489cc606"), looks := true }, kinds := [], alts := [], laidByText := true, laidKinds := [.data, .pinned, .data, .sentinel, .sentinel, .data, .data, .data, .data], laidTests := true, laidLooks := .later }
def ScriptIgnoredUptoCardSaid : Prop := Claim7.holds Tryz.pinned (.plain (OpenSpec.upto scriptIgnoredSpec)) scriptIgnoredUptoCard

/-- THE SECOND FORM's CARD OF 'armaturelaw36.ScriptFirstError'. -/
def scriptFirstErrorUptoCard : Claim7 := { stood := { row := scriptFirstErrorUptoRow, standIns := [], harness := (true, "fde00d129ed1f988b30accdb49446c73fca70c39d2e86a2c4efcc4d4489cc606"), looks := true }, kinds := [], alts := [], laidByText := true, laidKinds := [.data, .pinned, .data, .sentinel, .sentinel, .data, .data, .data, .data], laidTests := true, laidLooks := .later }
def ScriptFirstErrorUptoCardSaid : Prop := Claim7.holds Tryz.pinned (.plain (OpenSpec.upto scriptFirstErrorSpec)) scriptFirstErrorUptoCard

/-- THE SECOND FORM's CARD OF 'armaturelaw36.ScriptLimits'. -/
def scriptLimitsUptoCard : Claim7 := { stood := { row := scriptLimitsUptoRow, standIns := [], harness := (true, "fde00d129ed1f988b30accdb49446c73fca70c39d2e86a2c4efcc4d4489cc606"), looks := true }, kinds := [], alts := [], laidByText := true, laidKinds := [.data, .pinned, .data, .sentinel, .sentinel, .data, .data, .data, .data], laidTests := true, laidLooks := .later }
def ScriptLimitsUptoCardSaid : Prop := Claim7.holds Tryz.pinned (.plain (OpenSpec.upto scriptLimitsSpec)) scriptLimitsUptoCard
end Rows
end Go.Proofs.YtebbfckifhbkoaaGreatDoor
