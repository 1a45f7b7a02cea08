/-
  NARROWER THAN 'FOR EVERY INPUT', by the rows' own cells (each row's printed sentence says how): LexerMatchesReference: laid · LexerOffsets: laid · LexerStable: laid · LexerConcatenation: laid · LexerFirstError: laid · LexerLongest: laid · LexerWords: laid · LexerLimit: laid.
  DERIVED. THE GIVEN ROWS OF THIS SEAT. 8 by the template 'for every input the law returns true; each argument reads behind the call as it read before'; 0 by the template 'total and deterministic' (their statements: YtphnflkjgoobmaaDoorTotals.lean).
  GIVEN WITH THE SEED: the statements are not yours to turn. If you find one false, say at which input.
  Laid BY PROGRAM, IN A SANDBOX (cutbox-rows.mjs): the forced cells as the released guide's own fill.sh prints them over the translation 76b48f64faba3fcf… (all of the seat's roots in one cut). By AI agents, Wed Nov 11 2026. No macro, syntax, notation, axiom, sorry.
-/
import Derived.Test.YtphnflkjgoobmaaDoorChecked
import GoSem.Claim
import GoSem.ClaimJoined
import GoSem.ClaimMapViews
import Derived.JoinedTies
import Derived.KernelRfl
namespace Go.Proofs.YtphnflkjgoobmaaDoor
/- THE CELL 'sum', in the pinned program and in every row, IS THE sha256 OF THE DUMP (.gsa) THAT YtphnflkjgoobmaaDoorProg.lean LOADS. Nothing in Lean hashes anything: it is a label: what it is worth is what the hold of that sum in a sandbox is worth. -/
noncomputable def Tryd.pinned : Pinned := { name := "ytphnflkjgoobmaadoor", sum := "76b48f64faba3fcf88c8f9e73ed4dc0528ebed6ce165ce3a923c906fc894ea21", checked := Tryd.checked }
namespace Rows
def none {H : Type} : Left H := { results := [], args := [] }

/- WHAT THE LISTED PACKAGE-LEVEL VARIABLES READ AS WHEN THE CALL BEGINS. Each datum BY PROGRAM (the guide's laid-datum.mjs) off the statement by which the dump's own 'gosem.cut.vars' lays the variable. In a bare row this is a premise. The card (YtphnflkjgoobmaaDoorCards.lean) ties it to the program's text. -/
def laid_armature_lexer_symbols {H : Type} : DataW H := .agg [.lit (.string [60, 61, 62]), .lit (.string [60, 61]), .lit (.string [60]), .lit (.string [61, 62]), .lit (.string [61]), .lit (.string [33, 61]), .lit (.string [45, 62]), .lit (.string [45]), .lit (.string [43, 43]), .lit (.string [43]), .lit (.string [38, 38]), .lit (.string [38]), .lit (.string [124, 124]), .lit (.string [124]), .lit (.string [40]), .lit (.string [41]), .lit (.string [123]), .lit (.string [125]), .lit (.string [91]), .lit (.string [93]), .lit (.string [58]), .lit (.string [59]), .lit (.string [44]), .lit (.string [46]), .lit (.string [39]), .lit (.string [126]), .lit (.string [94]), .lit (.string [42]), .lit (.string [35])]

/-- 'armaturelaw01.LexerMatchesReference': WHATEVER THE INPUT: true; the input reads as it did. -/
def lexerMatchesReferenceSpec : ChangeSpec := { name := "lexerMatchesReference", fn := fun _ => fun
  | [d] => { results := [.lit (.bool true)], args := [d] }
  | _ => none }
def lexerMatchesReferenceRow : OpenClaim := { program := "ytphnflkjgoobmaadoor", sum := "76b48f64faba3fcf88c8f9e73ed4dc0528ebed6ce165ce3a923c906fc894ea21", func := "armature/armaturelaw01.LexerMatchesReference", spec := "lexerMatchesReference", inPlace := ["internal/bytealg.IndexByteString"], unfollowed := true, recurses := true, named := ["armature/lexer.symbols"], apart := false, laid := [("armature/lexer.symbols", laid_armature_lexer_symbols)] }
def LexerMatchesReferenceSaid : Prop := lexerMatchesReferenceRow.holds Tryd.pinned (OpenSpec.ofChange lexerMatchesReferenceSpec)

/-- ITS FALSE NEIGHBOUR: 'it returns false'. Refute it at one input. -/
def lexerMatchesReferenceWrong : ChangeSpec := { name := "lexerMatchesReference", fn := fun _ => fun
  | [d] => { results := [.lit (.bool false)], args := [d] }
  | _ => none }
def LexerMatchesReferenceWrongFalsely : Prop := lexerMatchesReferenceRow.holds Tryd.pinned (OpenSpec.ofChange lexerMatchesReferenceWrong)

/-- 'armaturelaw01.LexerOffsets': WHATEVER THE INPUT: true; the input reads as it did. -/
def lexerOffsetsSpec : ChangeSpec := { name := "lexerOffsets", fn := fun _ => fun
  | [d] => { results := [.lit (.bool true)], args := [d] }
  | _ => none }
def lexerOffsetsRow : OpenClaim := { program := "ytphnflkjgoobmaadoor", sum := "76b48f64faba3fcf88c8f9e73ed4dc0528ebed6ce165ce3a923c906fc894ea21", func := "armature/armaturelaw01.LexerOffsets", spec := "lexerOffsets", inPlace := ["internal/bytealg.IndexByteString"], unfollowed := true, recurses := true, named := ["armature/lexer.symbols"], apart := false, laid := [("armature/lexer.symbols", laid_armature_lexer_symbols)] }
def LexerOffsetsSaid : Prop := lexerOffsetsRow.holds Tryd.pinned (OpenSpec.ofChange lexerOffsetsSpec)

/-- ITS FALSE NEIGHBOUR: 'it returns false'. Refute it at one input. -/
def lexerOffsetsWrong : ChangeSpec := { name := "lexerOffsets", fn := fun _ => fun
  | [d] => { results := [.lit (.bool false)], args := [d] }
  | _ => none }
def LexerOffsetsWrongFalsely : Prop := lexerOffsetsRow.holds Tryd.pinned (OpenSpec.ofChange lexerOffsetsWrong)

/-- 'armaturelaw01.LexerStable': WHATEVER THE INPUT: true; the input reads as it did. -/
def lexerStableSpec : ChangeSpec := { name := "lexerStable", fn := fun _ => fun
  | [d1, d2] => { results := [.lit (.bool true)], args := [d1, d2] }
  | _ => none }
def lexerStableRow : OpenClaim := { program := "ytphnflkjgoobmaadoor", sum := "76b48f64faba3fcf88c8f9e73ed4dc0528ebed6ce165ce3a923c906fc894ea21", func := "armature/armaturelaw01.LexerStable", spec := "lexerStable", inPlace := ["internal/bytealg.IndexByteString"], unfollowed := true, recurses := true, named := ["armature/lexer.symbols"], apart := false, laid := [("armature/lexer.symbols", laid_armature_lexer_symbols)] }
def LexerStableSaid : Prop := lexerStableRow.holds Tryd.pinned (OpenSpec.ofChange lexerStableSpec)

/-- ITS FALSE NEIGHBOUR: 'it returns false'. Refute it at one input. -/
def lexerStableWrong : ChangeSpec := { name := "lexerStable", fn := fun _ => fun
  | [d1, d2] => { results := [.lit (.bool false)], args := [d1, d2] }
  | _ => none }
def LexerStableWrongFalsely : Prop := lexerStableRow.holds Tryd.pinned (OpenSpec.ofChange lexerStableWrong)

/-- 'armaturelaw01.LexerConcatenation': WHATEVER THE INPUT: true; the input reads as it did. -/
def lexerConcatenationSpec : ChangeSpec := { name := "lexerConcatenation", fn := fun _ => fun
  | [d1, d2] => { results := [.lit (.bool true)], args := [d1, d2] }
  | _ => none }
def lexerConcatenationRow : OpenClaim := { program := "ytphnflkjgoobmaadoor", sum := "76b48f64faba3fcf88c8f9e73ed4dc0528ebed6ce165ce3a923c906fc894ea21", func := "armature/armaturelaw01.LexerConcatenation", spec := "lexerConcatenation", inPlace := ["internal/bytealg.IndexByteString"], unfollowed := true, recurses := true, named := ["armature/lexer.symbols"], apart := false, laid := [("armature/lexer.symbols", laid_armature_lexer_symbols)] }
def LexerConcatenationSaid : Prop := lexerConcatenationRow.holds Tryd.pinned (OpenSpec.ofChange lexerConcatenationSpec)

/-- ITS FALSE NEIGHBOUR: 'it returns false'. Refute it at one input. -/
def lexerConcatenationWrong : ChangeSpec := { name := "lexerConcatenation", fn := fun _ => fun
  | [d1, d2] => { results := [.lit (.bool false)], args := [d1, d2] }
  | _ => none }
def LexerConcatenationWrongFalsely : Prop := lexerConcatenationRow.holds Tryd.pinned (OpenSpec.ofChange lexerConcatenationWrong)

/-- 'armaturelaw01.LexerFirstError': WHATEVER THE INPUT: true; the input reads as it did. -/
def lexerFirstErrorSpec : ChangeSpec := { name := "lexerFirstError", fn := fun _ => fun
  | [d1, d2] => { results := [.lit (.bool true)], args := [d1, d2] }
  | _ => none }
def lexerFirstErrorRow : OpenClaim := { program := "ytphnflkjgoobmaadoor", sum := "76b48f64faba3fcf88c8f9e73ed4dc0528ebed6ce165ce3a923c906fc894ea21", func := "armature/armaturelaw01.LexerFirstError", spec := "lexerFirstError", inPlace := ["internal/bytealg.IndexByteString"], unfollowed := true, recurses := true, named := ["armature/lexer.symbols"], apart := false, laid := [("armature/lexer.symbols", laid_armature_lexer_symbols)] }
def LexerFirstErrorSaid : Prop := lexerFirstErrorRow.holds Tryd.pinned (OpenSpec.ofChange lexerFirstErrorSpec)

/-- ITS FALSE NEIGHBOUR: 'it returns false'. Refute it at one input. -/
def lexerFirstErrorWrong : ChangeSpec := { name := "lexerFirstError", fn := fun _ => fun
  | [d1, d2] => { results := [.lit (.bool false)], args := [d1, d2] }
  | _ => none }
def LexerFirstErrorWrongFalsely : Prop := lexerFirstErrorRow.holds Tryd.pinned (OpenSpec.ofChange lexerFirstErrorWrong)

/-- 'armaturelaw01.LexerLongest': WHATEVER THE INPUT: true; the input reads as it did. -/
def lexerLongestSpec : ChangeSpec := { name := "lexerLongest", fn := fun _ => fun
  | [d] => { results := [.lit (.bool true)], args := [d] }
  | _ => none }
def lexerLongestRow : OpenClaim := { program := "ytphnflkjgoobmaadoor", sum := "76b48f64faba3fcf88c8f9e73ed4dc0528ebed6ce165ce3a923c906fc894ea21", func := "armature/armaturelaw01.LexerLongest", spec := "lexerLongest", inPlace := ["internal/bytealg.IndexByteString"], unfollowed := true, recurses := true, named := ["armature/lexer.symbols"], apart := false, laid := [("armature/lexer.symbols", laid_armature_lexer_symbols)] }
def LexerLongestSaid : Prop := lexerLongestRow.holds Tryd.pinned (OpenSpec.ofChange lexerLongestSpec)

/-- ITS FALSE NEIGHBOUR: 'it returns false'. Refute it at one input. -/
def lexerLongestWrong : ChangeSpec := { name := "lexerLongest", fn := fun _ => fun
  | [d] => { results := [.lit (.bool false)], args := [d] }
  | _ => none }
def LexerLongestWrongFalsely : Prop := lexerLongestRow.holds Tryd.pinned (OpenSpec.ofChange lexerLongestWrong)

/-- 'armaturelaw01.LexerWords': WHATEVER THE INPUT: true; the input reads as it did. -/
def lexerWordsSpec : ChangeSpec := { name := "lexerWords", fn := fun _ => fun
  | [d1, d2, d3] => { results := [.lit (.bool true)], args := [d1, d2, d3] }
  | _ => none }
def lexerWordsRow : OpenClaim := { program := "ytphnflkjgoobmaadoor", sum := "76b48f64faba3fcf88c8f9e73ed4dc0528ebed6ce165ce3a923c906fc894ea21", func := "armature/armaturelaw01.LexerWords", spec := "lexerWords", inPlace := ["internal/bytealg.IndexByteString"], unfollowed := true, recurses := true, named := ["armature/lexer.symbols"], apart := false, laid := [("armature/lexer.symbols", laid_armature_lexer_symbols)] }
def LexerWordsSaid : Prop := lexerWordsRow.holds Tryd.pinned (OpenSpec.ofChange lexerWordsSpec)

/-- ITS FALSE NEIGHBOUR: 'it returns false'. Refute it at one input. -/
def lexerWordsWrong : ChangeSpec := { name := "lexerWords", fn := fun _ => fun
  | [d1, d2, d3] => { results := [.lit (.bool false)], args := [d1, d2, d3] }
  | _ => none }
def LexerWordsWrongFalsely : Prop := lexerWordsRow.holds Tryd.pinned (OpenSpec.ofChange lexerWordsWrong)

/-- 'armaturelaw01.LexerLimit': WHATEVER THE INPUT: true; the input reads as it did. -/
def lexerLimitSpec : ChangeSpec := { name := "lexerLimit", fn := fun _ => fun
  | [d1, d2] => { results := [.lit (.bool true)], args := [d1, d2] }
  | _ => none }
def lexerLimitRow : OpenClaim := { program := "ytphnflkjgoobmaadoor", sum := "76b48f64faba3fcf88c8f9e73ed4dc0528ebed6ce165ce3a923c906fc894ea21", func := "armature/armaturelaw01.LexerLimit", spec := "lexerLimit", inPlace := ["internal/bytealg.IndexByteString"], unfollowed := true, recurses := true, named := ["armature/lexer.symbols"], apart := false, laid := [("armature/lexer.symbols", laid_armature_lexer_symbols)] }
def LexerLimitSaid : Prop := lexerLimitRow.holds Tryd.pinned (OpenSpec.ofChange lexerLimitSpec)

/-- ITS FALSE NEIGHBOUR: 'it returns false'. Refute it at one input. -/
def lexerLimitWrong : ChangeSpec := { name := "lexerLimit", fn := fun _ => fun
  | [d1, d2] => { results := [.lit (.bool false)], args := [d1, d2] }
  | _ => none }
def LexerLimitWrongFalsely : Prop := lexerLimitRow.holds Tryd.pinned (OpenSpec.ofChange lexerLimitWrong)

/- THE SECOND FORM. 'bulk': how many values and letters a reading holds, each counted each time it is reached (what is shared counts as often as it is met; a slice's spare places count too). A statement '..UptoSaid' is the law's where the arguments, and the package variables that the reading takes, are together of bulk at most 1048576: NARROWER than '..Said'. Prove '..Said' where nothing that the law and all that it calls make is longer than what came in: it says more and counts as full. Else prove '..UptoSaid'. A law counts once. -/
mutual
def uptoBulk {H : Type} : DataW H → Nat
  | .lit (.string bytes) => bytes.length + 1
  | .lit _ => 1
  | .nil => 1
  | .ptr d => uptoBulk d + 1
  | .slice elems spare => uptoBulkAll elems + uptoBulkAll spare + 1
  | .agg parts => uptoBulkAll parts + 1
  | .iface _ d => uptoBulk d + 1
  | .map entries => uptoBulkEntries entries + 1
  | .held _ => 1
def uptoBulkAll {H : Type} : List (DataW H) → Nat
  | [] => 0
  | d :: r => uptoBulk d + uptoBulkAll r
def uptoBulkEntries {H : Type} : List (Lit × DataW H) → Nat
  | [] => 0
  | x :: r => uptoBulkEntry x + uptoBulkEntries r
def uptoBulkEntry {H : Type} : Lit × DataW H → Nat
  | (.string bytes, d) => bytes.length + uptoBulk d + 1
  | (_, d) => uptoBulk d + 1
 end
def uptoSmall : (H : Type) → List (DataW H) → Bool := fun _ ds => decide (uptoBulkAll ds ≤ 1048576)
def OpenSpec.upto (s : _root_.Go.ChangeSpec) : _root_.Go.OpenSpec := { _root_.Go.OpenSpec.ofChange s with cond := some uptoSmall }

/-- 'armaturelaw01.LexerMatchesReference', WHERE WHAT IT READS IS OF BULK AT MOST 1048576: true; the input reads as it did. -/
def lexerMatchesReferenceUptoRow : OpenClaim := { program := "ytphnflkjgoobmaadoor", sum := "76b48f64faba3fcf88c8f9e73ed4dc0528ebed6ce165ce3a923c906fc894ea21", func := "armature/armaturelaw01.LexerMatchesReference", spec := "lexerMatchesReference", inPlace := ["internal/bytealg.IndexByteString"], unfollowed := true, recurses := true, named := ["armature/lexer.symbols"], apart := false, laid := [("armature/lexer.symbols", laid_armature_lexer_symbols)], narrowed := true }
def LexerMatchesReferenceUptoSaid : Prop := lexerMatchesReferenceUptoRow.holds Tryd.pinned (OpenSpec.upto lexerMatchesReferenceSpec)

/-- 'armaturelaw01.LexerOffsets', WHERE WHAT IT READS IS OF BULK AT MOST 1048576: true; the input reads as it did. -/
def lexerOffsetsUptoRow : OpenClaim := { program := "ytphnflkjgoobmaadoor", sum := "76b48f64faba3fcf88c8f9e73ed4dc0528ebed6ce165ce3a923c906fc894ea21", func := "armature/armaturelaw01.LexerOffsets", spec := "lexerOffsets", inPlace := ["internal/bytealg.IndexByteString"], unfollowed := true, recurses := true, named := ["armature/lexer.symbols"], apart := false, laid := [("armature/lexer.symbols", laid_armature_lexer_symbols)], narrowed := true }
def LexerOffsetsUptoSaid : Prop := lexerOffsetsUptoRow.holds Tryd.pinned (OpenSpec.upto lexerOffsetsSpec)

/-- 'armaturelaw01.LexerStable', WHERE WHAT IT READS IS OF BULK AT MOST 1048576: true; the input reads as it did. -/
def lexerStableUptoRow : OpenClaim := { program := "ytphnflkjgoobmaadoor", sum := "76b48f64faba3fcf88c8f9e73ed4dc0528ebed6ce165ce3a923c906fc894ea21", func := "armature/armaturelaw01.LexerStable", spec := "lexerStable", inPlace := ["internal/bytealg.IndexByteString"], unfollowed := true, recurses := true, named := ["armature/lexer.symbols"], apart := false, laid := [("armature/lexer.symbols", laid_armature_lexer_symbols)], narrowed := true }
def LexerStableUptoSaid : Prop := lexerStableUptoRow.holds Tryd.pinned (OpenSpec.upto lexerStableSpec)

/-- 'armaturelaw01.LexerConcatenation', WHERE WHAT IT READS IS OF BULK AT MOST 1048576: true; the input reads as it did. -/
def lexerConcatenationUptoRow : OpenClaim := { program := "ytphnflkjgoobmaadoor", sum := "76b48f64faba3fcf88c8f9e73ed4dc0528ebed6ce165ce3a923c906fc894ea21", func := "armature/armaturelaw01.LexerConcatenation", spec := "lexerConcatenation", inPlace := ["internal/bytealg.IndexByteString"], unfollowed := true, recurses := true, named := ["armature/lexer.symbols"], apart := false, laid := [("armature/lexer.symbols", laid_armature_lexer_symbols)], narrowed := true }
def LexerConcatenationUptoSaid : Prop := lexerConcatenationUptoRow.holds Tryd.pinned (OpenSpec.upto lexerConcatenationSpec)

/-- 'armaturelaw01.LexerFirstError', WHERE WHAT IT READS IS OF BULK AT MOST 1048576: true; the input reads as it did. -/
def lexerFirstErrorUptoRow : OpenClaim := { program := "ytphnflkjgoobmaadoor", sum := "76b48f64faba3fcf88c8f9e73ed4dc0528ebed6ce165ce3a923c906fc894ea21", func := "armature/armaturelaw01.LexerFirstError", spec := "lexerFirstError", inPlace := ["internal/bytealg.IndexByteString"], unfollowed := true, recurses := true, named := ["armature/lexer.symbols"], apart := false, laid := [("armature/lexer.symbols", laid_armature_lexer_symbols)], narrowed := true }
def LexerFirstErrorUptoSaid : Prop := lexerFirstErrorUptoRow.holds Tryd.pinned (OpenSpec.upto lexerFirstErrorSpec)

/-- 'armaturelaw01.LexerLongest', WHERE WHAT IT READS IS OF BULK AT MOST 1048576: true; the input reads as it did. -/
def lexerLongestUptoRow : OpenClaim := { program := "ytphnflkjgoobmaadoor", sum := "76b48f64faba3fcf88c8f9e73ed4dc0528ebed6ce165ce3a923c906fc894ea21", func := "armature/armaturelaw01.LexerLongest", spec := "lexerLongest", inPlace := ["internal/bytealg.IndexByteString"], unfollowed := true, recurses := true, named := ["armature/lexer.symbols"], apart := false, laid := [("armature/lexer.symbols", laid_armature_lexer_symbols)], narrowed := true }
def LexerLongestUptoSaid : Prop := lexerLongestUptoRow.holds Tryd.pinned (OpenSpec.upto lexerLongestSpec)

/-- 'armaturelaw01.LexerWords', WHERE WHAT IT READS IS OF BULK AT MOST 1048576: true; the input reads as it did. -/
def lexerWordsUptoRow : OpenClaim := { program := "ytphnflkjgoobmaadoor", sum := "76b48f64faba3fcf88c8f9e73ed4dc0528ebed6ce165ce3a923c906fc894ea21", func := "armature/armaturelaw01.LexerWords", spec := "lexerWords", inPlace := ["internal/bytealg.IndexByteString"], unfollowed := true, recurses := true, named := ["armature/lexer.symbols"], apart := false, laid := [("armature/lexer.symbols", laid_armature_lexer_symbols)], narrowed := true }
def LexerWordsUptoSaid : Prop := lexerWordsUptoRow.holds Tryd.pinned (OpenSpec.upto lexerWordsSpec)

/-- 'armaturelaw01.LexerLimit', WHERE WHAT IT READS IS OF BULK AT MOST 1048576: true; the input reads as it did. -/
def lexerLimitUptoRow : OpenClaim := { program := "ytphnflkjgoobmaadoor", sum := "76b48f64faba3fcf88c8f9e73ed4dc0528ebed6ce165ce3a923c906fc894ea21", func := "armature/armaturelaw01.LexerLimit", spec := "lexerLimit", inPlace := ["internal/bytealg.IndexByteString"], unfollowed := true, recurses := true, named := ["armature/lexer.symbols"], apart := false, laid := [("armature/lexer.symbols", laid_armature_lexer_symbols)], narrowed := true }
def LexerLimitUptoSaid : Prop := lexerLimitUptoRow.holds Tryd.pinned (OpenSpec.upto lexerLimitSpec)

end Rows
end Go.Proofs.YtphnflkjgoobmaaDoor
