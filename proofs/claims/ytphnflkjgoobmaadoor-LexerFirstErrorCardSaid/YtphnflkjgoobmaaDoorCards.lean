/-
  DERIVED. GIVEN WITH THE SEED: THE CARDS: each row of YtphnflkjgoobmaaDoorRows.lean that lists a variable, with what it lists TIED to the program's text (the seventh form; the later family's looks); each row that meets fmt, with fmt's text TOLD by the authors' own Lean function (tested against real Go, not proved from fmt's source: count such statements apart). THE CARD IS WHAT COUNTS. Prove the row's statement (the work); the ties are given (YtphnflkjgoobmaaDoorTie.lean); close each card by the builder's one call (the guide's Derived/Test/ToyasCard.lean, 'card_holds'). Laid BY PROGRAM, IN A SANDBOX (cutbox-door.mjs). By AI agents, Wed Nov 11 2026. No macro, syntax, notation, axiom, sorry.
-/
import Derived.Test.YtphnflkjgoobmaaDoorRows
import GoSem.ClaimSeven
namespace Go.Proofs.YtphnflkjgoobmaaDoor
namespace Rows

/-- THE TIED CARD OF 'armaturelaw01.LexerMatchesReference'. -/
def lexerMatchesReferenceCard : Claim7 := { stood := { row := lexerMatchesReferenceRow, standIns := [], harness := (true, "d565f7a37d77ef256f0447b0a07ac74ed60c6b2b7ea88604e99857564a0f80a6"), looks := false }, kinds := [], alts := [], laidByText := true, laidKinds := [.data], laidTests := true, laidLooks := .later }
def LexerMatchesReferenceCardSaid : Prop := Claim7.holds Tryd.pinned (.plain (OpenSpec.ofChange lexerMatchesReferenceSpec)) lexerMatchesReferenceCard

/-- THE TIED CARD OF 'armaturelaw01.LexerOffsets'. -/
def lexerOffsetsCard : Claim7 := { stood := { row := lexerOffsetsRow, standIns := [], harness := (true, "d565f7a37d77ef256f0447b0a07ac74ed60c6b2b7ea88604e99857564a0f80a6"), looks := false }, kinds := [], alts := [], laidByText := true, laidKinds := [.data], laidTests := true, laidLooks := .later }
def LexerOffsetsCardSaid : Prop := Claim7.holds Tryd.pinned (.plain (OpenSpec.ofChange lexerOffsetsSpec)) lexerOffsetsCard

/-- THE TIED CARD OF 'armaturelaw01.LexerStable'. -/
def lexerStableCard : Claim7 := { stood := { row := lexerStableRow, standIns := [], harness := (true, "d565f7a37d77ef256f0447b0a07ac74ed60c6b2b7ea88604e99857564a0f80a6"), looks := false }, kinds := [], alts := [], laidByText := true, laidKinds := [.data], laidTests := true, laidLooks := .later }
def LexerStableCardSaid : Prop := Claim7.holds Tryd.pinned (.plain (OpenSpec.ofChange lexerStableSpec)) lexerStableCard

/-- THE TIED CARD OF 'armaturelaw01.LexerConcatenation'. -/
def lexerConcatenationCard : Claim7 := { stood := { row := lexerConcatenationRow, standIns := [], harness := (true, "d565f7a37d77ef256f0447b0a07ac74ed60c6b2b7ea88604e99857564a0f80a6"), looks := false }, kinds := [], alts := [], laidByText := true, laidKinds := [.data], laidTests := true, laidLooks := .later }
def LexerConcatenationCardSaid : Prop := Claim7.holds Tryd.pinned (.plain (OpenSpec.ofChange lexerConcatenationSpec)) lexerConcatenationCard

/-- THE TIED CARD OF 'armaturelaw01.LexerFirstError'. -/
def lexerFirstErrorCard : Claim7 := { stood := { row := lexerFirstErrorRow, standIns := [], harness := (true, "d565f7a37d77ef256f0447b0a07ac74ed60c6b2b7ea88604e99857564a0f80a6"), looks := false }, kinds := [], alts := [], laidByText := true, laidKinds := [.data], laidTests := true, laidLooks := .later }
def LexerFirstErrorCardSaid : Prop := Claim7.holds Tryd.pinned (.plain (OpenSpec.ofChange lexerFirstErrorSpec)) lexerFirstErrorCard

/-- THE TIED CARD OF 'armaturelaw01.LexerLongest'. -/
def lexerLongestCard : Claim7 := { stood := { row := lexerLongestRow, standIns := [], harness := (true, "d565f7a37d77ef256f0447b0a07ac74ed60c6b2b7ea88604e99857564a0f80a6"), looks := false }, kinds := [], alts := [], laidByText := true, laidKinds := [.data], laidTests := true, laidLooks := .later }
def LexerLongestCardSaid : Prop := Claim7.holds Tryd.pinned (.plain (OpenSpec.ofChange lexerLongestSpec)) lexerLongestCard

/-- THE TIED CARD OF 'armaturelaw01.LexerWords'. -/
def lexerWordsCard : Claim7 := { stood := { row := lexerWordsRow, standIns := [], harness := (true, "d565f7a37d77ef256f0447b0a07ac74ed60c6b2b7ea88604e99857564a0f80a6"), looks := false }, kinds := [], alts := [], laidByText := true, laidKinds := [.data], laidTests := true, laidLooks := .later }
def LexerWordsCardSaid : Prop := Claim7.holds Tryd.pinned (.plain (OpenSpec.ofChange lexerWordsSpec)) lexerWordsCard

/-- THE TIED CARD OF 'armaturelaw01.LexerLimit'. -/
def lexerLimitCard : Claim7 := { stood := { row := lexerLimitRow, standIns := [], harness := (true, "d565f7a37d77ef256f0447b0a07ac74ed60c6b2b7ea88604e99857564a0f80a6"), looks := false }, kinds := [], alts := [], laidByText := true, laidKinds := [.data], laidTests := true, laidLooks := .later }
def LexerLimitCardSaid : Prop := Claim7.holds Tryd.pinned (.plain (OpenSpec.ofChange lexerLimitSpec)) lexerLimitCard

/-- THE SECOND FORM's CARD OF 'armaturelaw01.LexerMatchesReference'. -/
def lexerMatchesReferenceUptoCard : Claim7 := { stood := { row := lexerMatchesReferenceUptoRow, standIns := [], harness := (true, "d565f7a37d77ef256f0447b0a07ac74ed60c6b2b7ea88604e99857564a0f80a6"), looks := false }, kinds := [], alts := [], laidByText := true, laidKinds := [.data], laidTests := true, laidLooks := .later }
def LexerMatchesReferenceUptoCardSaid : Prop := Claim7.holds Tryd.pinned (.plain (OpenSpec.upto lexerMatchesReferenceSpec)) lexerMatchesReferenceUptoCard

/-- THE SECOND FORM's CARD OF 'armaturelaw01.LexerOffsets'. -/
def lexerOffsetsUptoCard : Claim7 := { stood := { row := lexerOffsetsUptoRow, standIns := [], harness := (true, "d565f7a37d77ef256f0447b0a07ac74ed60c6b2b7ea88604e99857564a0f80a6"), looks := false }, kinds := [], alts := [], laidByText := true, laidKinds := [.data], laidTests := true, laidLooks := .later }
def LexerOffsetsUptoCardSaid : Prop := Claim7.holds Tryd.pinned (.plain (OpenSpec.upto lexerOffsetsSpec)) lexerOffsetsUptoCard

/-- THE SECOND FORM's CARD OF 'armaturelaw01.LexerStable'. -/
def lexerStableUptoCard : Claim7 := { stood := { row := lexerStableUptoRow, standIns := [], harness := (true, "d565f7a37d77ef256f0447b0a07ac74ed60c6b2b7ea88604e99857564a0f80a6"), looks := false }, kinds := [], alts := [], laidByText := true, laidKinds := [.data], laidTests := true, laidLooks := .later }
def LexerStableUptoCardSaid : Prop := Claim7.holds Tryd.pinned (.plain (OpenSpec.upto lexerStableSpec)) lexerStableUptoCard

/-- THE SECOND FORM's CARD OF 'armaturelaw01.LexerConcatenation'. -/
def lexerConcatenationUptoCard : Claim7 := { stood := { row := lexerConcatenationUptoRow, standIns := [], harness := (true, "d565f7a37d77ef256f0447b0a07ac74ed60c6b2b7ea88604e99857564a0f80a6"), looks := false }, kinds := [], alts := [], laidByText := true, laidKinds := [.data], laidTests := true, laidLooks := .later }
def LexerConcatenationUptoCardSaid : Prop := Claim7.holds Tryd.pinned (.plain (OpenSpec.upto lexerConcatenationSpec)) lexerConcatenationUptoCard

/-- THE SECOND FORM's CARD OF 'armaturelaw01.LexerFirstError'. -/
def lexerFirstErrorUptoCard : Claim7 := { stood := { row := lexerFirstErrorUptoRow, standIns := [], harness := (true, "d565f7a37d77ef256f0447b0a07ac74ed60c6b2b7ea88604e99857564a0f80a6"), looks := false }, kinds := [], alts := [], laidByText := true, laidKinds := [.data], laidTests := true, laidLooks := .later }
def LexerFirstErrorUptoCardSaid : Prop := Claim7.holds Tryd.pinned (.plain (OpenSpec.upto lexerFirstErrorSpec)) lexerFirstErrorUptoCard

/-- THE SECOND FORM's CARD OF 'armaturelaw01.LexerLongest'. -/
def lexerLongestUptoCard : Claim7 := { stood := { row := lexerLongestUptoRow, standIns := [], harness := (true, "d565f7a37d77ef256f0447b0a07ac74ed60c6b2b7ea88604e99857564a0f80a6"), looks := false }, kinds := [], alts := [], laidByText := true, laidKinds := [.data], laidTests := true, laidLooks := .later }
def LexerLongestUptoCardSaid : Prop := Claim7.holds Tryd.pinned (.plain (OpenSpec.upto lexerLongestSpec)) lexerLongestUptoCard

/-- THE SECOND FORM's CARD OF 'armaturelaw01.LexerWords'. -/
def lexerWordsUptoCard : Claim7 := { stood := { row := lexerWordsUptoRow, standIns := [], harness := (true, "d565f7a37d77ef256f0447b0a07ac74ed60c6b2b7ea88604e99857564a0f80a6"), looks := false }, kinds := [], alts := [], laidByText := true, laidKinds := [.data], laidTests := true, laidLooks := .later }
def LexerWordsUptoCardSaid : Prop := Claim7.holds Tryd.pinned (.plain (OpenSpec.upto lexerWordsSpec)) lexerWordsUptoCard

/-- THE SECOND FORM's CARD OF 'armaturelaw01.LexerLimit'. -/
def lexerLimitUptoCard : Claim7 := { stood := { row := lexerLimitUptoRow, standIns := [], harness := (true, "d565f7a37d77ef256f0447b0a07ac74ed60c6b2b7ea88604e99857564a0f80a6"), looks := false }, kinds := [], alts := [], laidByText := true, laidKinds := [.data], laidTests := true, laidLooks := .later }
def LexerLimitUptoCardSaid : Prop := Claim7.holds Tryd.pinned (.plain (OpenSpec.upto lexerLimitSpec)) lexerLimitUptoCard
end Rows
end Go.Proofs.YtphnflkjgoobmaaDoor
