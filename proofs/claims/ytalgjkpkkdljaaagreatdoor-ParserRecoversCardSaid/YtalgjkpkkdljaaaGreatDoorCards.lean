/-
  DERIVED. GIVEN WITH THE SEED: THE CARDS: each row of YtalgjkpkkdljaaaGreatDoorRows.lean that lists a variable, with what it lists TIED to the program's text (the seventh form; the later family's looks); each row that meets fmt, with fmt's text TOLD by the authors' own Lean function (tested against real Go, not proved from fmt's source: count such statements apart). THE CARD IS WHAT COUNTS. Prove the row's statement (the work); the ties are given (YtalgjkpkkdljaaaGreatDoorTie.lean); close each card by the builder's one call (the guide's Derived/Test/ToyasCard.lean, 'card_holds'). Laid BY PROGRAM, IN A SANDBOX (cutbox-door.mjs). By AI agents, Wed Nov 11 2026. No macro, syntax, notation, axiom, sorry.
-/
import Derived.Test.YtalgjkpkkdljaaaGreatDoorRows
import GoSem.ClaimSeven
namespace Go.Proofs.YtalgjkpkkdljaaaGreatDoor
namespace Rows

/-- THE TIED CARD OF 'armaturelaw02.ParserReturnsValidTrees'. -/
def parserReturnsValidTreesCard : Claim7 := { stood := { row := parserReturnsValidTreesRow, standIns := [], harness := (true, "883bba58aeb31fcc47d1d9fab1e24fd0537c95c426ad3fb5f968ea92ef27e868"), looks := true }, kinds := [], alts := [], laidByText := true, laidKinds := [.data, .data, .data, .sentinel, .sentinel, .data], laidTests := true, laidLooks := .later }
def ParserReturnsValidTreesCardSaid : Prop := Claim7.holds Tryz.pinned (.plain (OpenSpec.ofChange parserReturnsValidTreesSpec)) parserReturnsValidTreesCard

/-- THE TIED CARD OF 'armaturelaw02.ParserReadsParentheses'. -/
def parserReadsParenthesesCard : Claim7 := { stood := { row := parserReadsParenthesesRow, standIns := [], harness := (true, "883bba58aeb31fcc47d1d9fab1e24fd0537c95c426ad3fb5f968ea92ef27e868"), looks := true }, kinds := [], alts := [], laidByText := true, laidKinds := [.data, .data, .data, .sentinel, .sentinel, .data], laidTests := true, laidLooks := .later }
def ParserReadsParenthesesCardSaid : Prop := Claim7.holds Tryz.pinned (.plain (OpenSpec.ofChange parserReadsParenthesesSpec)) parserReadsParenthesesCard

/-- THE TIED CARD OF 'armaturelaw02.ParserPrecedence'. -/
def parserPrecedenceCard : Claim7 := { stood := { row := parserPrecedenceRow, standIns := [], harness := (true, "883bba58aeb31fcc47d1d9fab1e24fd0537c95c426ad3fb5f968ea92ef27e868"), looks := true }, kinds := [], alts := [], laidByText := true, laidKinds := [.data, .data, .data, .sentinel, .sentinel, .data], laidTests := true, laidLooks := .later }
def ParserPrecedenceCardSaid : Prop := Claim7.holds Tryz.pinned (.plain (OpenSpec.ofChange parserPrecedenceSpec)) parserPrecedenceCard

/-- THE TIED CARD OF 'armaturelaw02.ParserIgnoresLayout'. -/
def parserIgnoresLayoutCard : Claim7 := { stood := { row := parserIgnoresLayoutRow, standIns := [], harness := (true, "883bba58aeb31fcc47d1d9fab1e24fd0537c95c426ad3fb5f968ea92ef27e868"), looks := true }, kinds := [], alts := [], laidByText := true, laidKinds := [.data, .data, .data, .sentinel, .sentinel, .data], laidTests := true, laidLooks := .later }
def ParserIgnoresLayoutCardSaid : Prop := Claim7.holds Tryz.pinned (.plain (OpenSpec.ofChange parserIgnoresLayoutSpec)) parserIgnoresLayoutCard

/-- THE TIED CARD OF 'armaturelaw02.ParserConcatenation'. -/
def parserConcatenationCard : Claim7 := { stood := { row := parserConcatenationRow, standIns := [], harness := (true, "883bba58aeb31fcc47d1d9fab1e24fd0537c95c426ad3fb5f968ea92ef27e868"), looks := true }, kinds := [], alts := [], laidByText := true, laidKinds := [.data, .data, .data, .sentinel, .sentinel, .data], laidTests := true, laidLooks := .later }
def ParserConcatenationCardSaid : Prop := Claim7.holds Tryz.pinned (.plain (OpenSpec.ofChange parserConcatenationSpec)) parserConcatenationCard

/-- THE TIED CARD OF 'armaturelaw02.ParserRecovers'. -/
def parserRecoversCard : Claim7 := { stood := { row := parserRecoversRow, standIns := [], harness := (true, "883bba58aeb31fcc47d1d9fab1e24fd0537c95c426ad3fb5f968ea92ef27e868"), looks := true }, kinds := [], alts := [], laidByText := true, laidKinds := [.data, .data, .data, .sentinel, .sentinel, .data], laidTests := true, laidLooks := .later }
def ParserRecoversCardSaid : Prop := Claim7.holds Tryz.pinned (.plain (OpenSpec.ofChange parserRecoversSpec)) parserRecoversCard

/-- THE TIED CARD OF 'armaturelaw02.ParserValidSubtrees'. -/
def parserValidSubtreesCard : Claim7 := { stood := { row := parserValidSubtreesRow, standIns := [], harness := (true, "883bba58aeb31fcc47d1d9fab1e24fd0537c95c426ad3fb5f968ea92ef27e868"), looks := true }, kinds := [], alts := [], laidByText := true, laidKinds := [.data, .data, .data, .sentinel, .sentinel, .data], laidTests := true, laidLooks := .later }
def ParserValidSubtreesCardSaid : Prop := Claim7.holds Tryz.pinned (.plain (OpenSpec.ofChange parserValidSubtreesSpec)) parserValidSubtreesCard

/-- THE TIED CARD OF 'armaturelaw03.PrinterRoundTrip'. -/
def printerRoundTripCard : Claim7 := { stood := { row := printerRoundTripRow, standIns := [], harness := (true, "883bba58aeb31fcc47d1d9fab1e24fd0537c95c426ad3fb5f968ea92ef27e868"), looks := true }, kinds := [], alts := [], laidByText := true, laidKinds := [.data, .data, .data, .sentinel, .sentinel, .data], laidTests := true, laidLooks := .later }
def PrinterRoundTripCardSaid : Prop := Claim7.holds Tryz.pinned (.plain (OpenSpec.ofChange printerRoundTripSpec)) printerRoundTripCard

/-- THE TIED CARD OF 'armaturelaw03.PrinterCanonical'. -/
def printerCanonicalCard : Claim7 := { stood := { row := printerCanonicalRow, standIns := [], harness := (true, "883bba58aeb31fcc47d1d9fab1e24fd0537c95c426ad3fb5f968ea92ef27e868"), looks := true }, kinds := [], alts := [], laidByText := true, laidKinds := [.data, .data, .data, .sentinel, .sentinel, .data], laidTests := true, laidLooks := .later }
def PrinterCanonicalCardSaid : Prop := Claim7.holds Tryz.pinned (.plain (OpenSpec.ofChange printerCanonicalSpec)) printerCanonicalCard

/-- THE TIED CARD OF 'armaturelaw03.PrinterMinimal'. -/
def printerMinimalCard : Claim7 := { stood := { row := printerMinimalRow, standIns := [], harness := (true, "883bba58aeb31fcc47d1d9fab1e24fd0537c95c426ad3fb5f968ea92ef27e868"), looks := true }, kinds := [], alts := [], laidByText := true, laidKinds := [.data, .data, .data, .sentinel, .sentinel, .data], laidTests := true, laidLooks := .later }
def PrinterMinimalCardSaid : Prop := Claim7.holds Tryz.pinned (.plain (OpenSpec.ofChange printerMinimalSpec)) printerMinimalCard

/-- THE SECOND FORM's CARD OF 'armaturelaw02.ParserReturnsValidTrees'. -/
def parserReturnsValidTreesUptoCard : Claim7 := { stood := { row := parserReturnsValidTreesUptoRow, standIns := [], harness := (true, "883bba58aeb31fcc47d1d9fab1e24fd0537c95c426ad3fb5f968ea92ef27e868"), looks := true }, kinds := [], alts := [], laidByText := true, laidKinds := [.data, .data, .data, .sentinel, .sentinel, .data], laidTests := true, laidLooks := .later }
def ParserReturnsValidTreesUptoCardSaid : Prop := Claim7.holds Tryz.pinned (.plain (OpenSpec.upto parserReturnsValidTreesSpec)) parserReturnsValidTreesUptoCard

/-- THE SECOND FORM's CARD OF 'armaturelaw02.ParserReadsParentheses'. -/
def parserReadsParenthesesUptoCard : Claim7 := { stood := { row := parserReadsParenthesesUptoRow, standIns := [], harness := (true, "883bba58aeb31fcc47d1d9fab1e24fd0537c95c426ad3fb5f968ea92ef27e868"), looks := true }, kinds := [], alts := [], laidByText := true, laidKinds := [.data, .data, .data, .sentinel, .sentinel, .data], laidTests := true, laidLooks := .later }
def ParserReadsParenthesesUptoCardSaid : Prop := Claim7.holds Tryz.pinned (.plain (OpenSpec.upto parserReadsParenthesesSpec)) parserReadsParenthesesUptoCard

/-- THE SECOND FORM's CARD OF 'armaturelaw02.ParserPrecedence'. -/
def parserPrecedenceUptoCard : Claim7 := { stood := { row := parserPrecedenceUptoRow, standIns := [], harness := (true, "883bba58aeb31fcc47d1d9fab1e24fd0537c95c426ad3fb5f968ea92ef27e868"), looks := true }, kinds := [], alts := [], laidByText := true, laidKinds := [.data, .data, .data, .sentinel, .sentinel, .data], laidTests := true, laidLooks := .later }
def ParserPrecedenceUptoCardSaid : Prop := Claim7.holds Tryz.pinned (.plain (OpenSpec.upto parserPrecedenceSpec)) parserPrecedenceUptoCard

/-- THE SECOND FORM's CARD OF 'armaturelaw02.ParserIgnoresLayout'. -/
def parserIgnoresLayoutUptoCard : Claim7 := { stood := { row := parserIgnoresLayoutUptoRow, standIns := [], harness := (true, "883bba58aeb31fcc47d1d9fab1e24fd0537c95c426ad3fb5f968ea92ef27e868"), looks := true }, kinds := [], alts := [], laidByText := true, laidKinds := [.data, .data, .data, .sentinel, .sentinel, .data], laidTests := true, laidLooks := .later }
def ParserIgnoresLayoutUptoCardSaid : Prop := Claim7.holds Tryz.pinned (.plain (OpenSpec.upto parserIgnoresLayoutSpec)) parserIgnoresLayoutUptoCard

/-- THE SECOND FORM's CARD OF 'armaturelaw02.ParserConcatenation'. -/
def parserConcatenationUptoCard : Claim7 := { stood := { row := parserConcatenationUptoRow, standIns := [], harness := (true, "883bba58aeb31fcc47d1d9fab1e24fd0537c95c426ad3fb5f968ea92ef27e868"), looks := true }, kinds := [], alts := [], laidByText := true, laidKinds := [.data, .data, .data, .sentinel, .sentinel, .data], laidTests := true, laidLooks := .later }
def ParserConcatenationUptoCardSaid : Prop := Claim7.holds Tryz.pinned (.plain (OpenSpec.upto parserConcatenationSpec)) parserConcatenationUptoCard

/-- THE SECOND FORM's CARD OF 'armaturelaw02.ParserRecovers'. -/
def parserRecoversUptoCard : Claim7 := { stood := { row := parserRecoversUptoRow, standIns := [], harness := (true, "883bba58aeb31fcc47d1d9fab1e24fd0537c95c426ad3fb5f968ea92ef27e868"), looks := true }, kinds := [], alts := [], laidByText := true, laidKinds := [.data, .data, .data, .sentinel, .sentinel, .data], laidTests := true, laidLooks := .later }
def ParserRecoversUptoCardSaid : Prop := Claim7.holds Tryz.pinned (.plain (OpenSpec.upto parserRecoversSpec)) parserRecoversUptoCard

/-- THE SECOND FORM's CARD OF 'armaturelaw02.ParserValidSubtrees'. -/
def parserValidSubtreesUptoCard : Claim7 := { stood := { row := parserValidSubtreesUptoRow, standIns := [], harness := (true, "883bba58aeb31fcc47d1d9fab1e24fd0537c95c426ad3fb5f968ea92ef27e868"), looks := true }, kinds := [], alts := [], laidByText := true, laidKinds := [.data, .data, .data, .sentinel, .sentinel, .data], laidTests := true, laidLooks := .later }
def ParserValidSubtreesUptoCardSaid : Prop := Claim7.holds Tryz.pinned (.plain (OpenSpec.upto parserValidSubtreesSpec)) parserValidSubtreesUptoCard

/-- THE SECOND FORM's CARD OF 'armaturelaw03.PrinterRoundTrip'. -/
def printerRoundTripUptoCard : Claim7 := { stood := { row := printerRoundTripUptoRow, standIns := [], harness := (true, "883bba58aeb31fcc47d1d9fab1e24fd0537c95c426ad3fb5f968ea92ef27e868"), looks := true }, kinds := [], alts := [], laidByText := true, laidKinds := [.data, .data, .data, .sentinel, .sentinel, .data], laidTests := true, laidLooks := .later }
def PrinterRoundTripUptoCardSaid : Prop := Claim7.holds Tryz.pinned (.plain (OpenSpec.upto printerRoundTripSpec)) printerRoundTripUptoCard

/-- THE SECOND FORM's CARD OF 'armaturelaw03.PrinterCanonical'. -/
def printerCanonicalUptoCard : Claim7 := { stood := { row := printerCanonicalUptoRow, standIns := [], harness := (true, "883bba58aeb31fcc47d1d9fab1e24fd0537c95c426ad3fb5f968ea92ef27e868"), looks := true }, kinds := [], alts := [], laidByText := true, laidKinds := [.data, .data, .data, .sentinel, .sentinel, .data], laidTests := true, laidLooks := .later }
def PrinterCanonicalUptoCardSaid : Prop := Claim7.holds Tryz.pinned (.plain (OpenSpec.upto printerCanonicalSpec)) printerCanonicalUptoCard

/-- THE SECOND FORM's CARD OF 'armaturelaw03.PrinterMinimal'. -/
def printerMinimalUptoCard : Claim7 := { stood := { row := printerMinimalUptoRow, standIns := [], harness := (true, "883bba58aeb31fcc47d1d9fab1e24fd0537c95c426ad3fb5f968ea92ef27e868"), looks := true }, kinds := [], alts := [], laidByText := true, laidKinds := [.data, .data, .data, .sentinel, .sentinel, .data], laidTests := true, laidLooks := .later }
def PrinterMinimalUptoCardSaid : Prop := Claim7.holds Tryz.pinned (.plain (OpenSpec.upto printerMinimalSpec)) printerMinimalUptoCard
end Rows
end Go.Proofs.YtalgjkpkkdljaaaGreatDoor
