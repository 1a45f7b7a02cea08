/-
  DERIVED. GIVEN WITH THE SEED: THE CARDS: each row of YtalgjkpkkdljaaaDoorRows.lean that lists a variable, with what it lists TIED to the program's text (the seventh form; the later family's looks); each row that meets fmt, with fmt's text TOLD by the authors' own Lean function (tested against real Go, not proved from fmt's source: count such statements apart). THE CARD IS WHAT COUNTS. Prove the row's statement (the work); the ties are given (YtalgjkpkkdljaaaDoorTie.lean); close each card by the builder's one call (the guide's Derived/Test/ToyasCard.lean, 'card_holds'). Laid BY PROGRAM, IN A SANDBOX (cutbox-door.mjs). By AI agents, Wed Nov 11 2026. No macro, syntax, notation, axiom, sorry.
-/
import Derived.Test.YtalgjkpkkdljaaaDoorRows
import GoSem.ClaimSeven
namespace Go.Proofs.YtalgjkpkkdljaaaDoor
namespace Rows

/-- THE TIED CARD OF 'armaturelaw03.PrinterMatchesReference'. -/
def printerMatchesReferenceCard : Claim7 := { stood := { row := printerMatchesReferenceRow, standIns := [], harness := (true, "56203fe4d26558a6786c550ac529c3e04ced4b27f962bac7aa0d8677f9181b93"), looks := false }, kinds := [], alts := [], laidByText := true, laidKinds := [.data, .data, .data], laidTests := true, laidLooks := .later }
def PrinterMatchesReferenceCardSaid : Prop := Claim7.holds Tryd.pinned (.plain (OpenSpec.ofChange printerMatchesReferenceSpec)) printerMatchesReferenceCard

/-- THE TIED CARD OF 'armaturelaw03.PrinterInjective'. -/
def printerInjectiveCard : Claim7 := { stood := { row := printerInjectiveRow, standIns := [], harness := (true, "56203fe4d26558a6786c550ac529c3e04ced4b27f962bac7aa0d8677f9181b93"), looks := false }, kinds := [], alts := [], laidByText := true, laidKinds := [.data, .data, .data], laidTests := true, laidLooks := .later }
def PrinterInjectiveCardSaid : Prop := Claim7.holds Tryd.pinned (.plain (OpenSpec.ofChange printerInjectiveSpec)) printerInjectiveCard

/-- THE TIED CARD OF 'armaturelaw03.PrinterEquality'. -/
def printerEqualityCard : Claim7 := { stood := { row := printerEqualityRow, standIns := [], harness := (true, "56203fe4d26558a6786c550ac529c3e04ced4b27f962bac7aa0d8677f9181b93"), looks := false }, kinds := [], alts := [], laidByText := true, laidKinds := [.data, .data, .data], laidTests := true, laidLooks := .later }
def PrinterEqualityCardSaid : Prop := Claim7.holds Tryd.pinned (.plain (OpenSpec.ofChange printerEqualitySpec)) printerEqualityCard

/-- THE SECOND FORM's CARD OF 'armaturelaw03.PrinterMatchesReference'. -/
def printerMatchesReferenceUptoCard : Claim7 := { stood := { row := printerMatchesReferenceUptoRow, standIns := [], harness := (true, "56203fe4d26558a6786c550ac529c3e04ced4b27f962bac7aa0d8677f9181b93"), looks := false }, kinds := [], alts := [], laidByText := true, laidKinds := [.data, .data, .data], laidTests := true, laidLooks := .later }
def PrinterMatchesReferenceUptoCardSaid : Prop := Claim7.holds Tryd.pinned (.plain (OpenSpec.upto printerMatchesReferenceSpec)) printerMatchesReferenceUptoCard

/-- THE SECOND FORM's CARD OF 'armaturelaw03.PrinterInjective'. -/
def printerInjectiveUptoCard : Claim7 := { stood := { row := printerInjectiveUptoRow, standIns := [], harness := (true, "56203fe4d26558a6786c550ac529c3e04ced4b27f962bac7aa0d8677f9181b93"), looks := false }, kinds := [], alts := [], laidByText := true, laidKinds := [.data, .data, .data], laidTests := true, laidLooks := .later }
def PrinterInjectiveUptoCardSaid : Prop := Claim7.holds Tryd.pinned (.plain (OpenSpec.upto printerInjectiveSpec)) printerInjectiveUptoCard

/-- THE SECOND FORM's CARD OF 'armaturelaw03.PrinterEquality'. -/
def printerEqualityUptoCard : Claim7 := { stood := { row := printerEqualityUptoRow, standIns := [], harness := (true, "56203fe4d26558a6786c550ac529c3e04ced4b27f962bac7aa0d8677f9181b93"), looks := false }, kinds := [], alts := [], laidByText := true, laidKinds := [.data, .data, .data], laidTests := true, laidLooks := .later }
def PrinterEqualityUptoCardSaid : Prop := Claim7.holds Tryd.pinned (.plain (OpenSpec.upto printerEqualitySpec)) printerEqualityUptoCard
end Rows
end Go.Proofs.YtalgjkpkkdljaaaDoor
