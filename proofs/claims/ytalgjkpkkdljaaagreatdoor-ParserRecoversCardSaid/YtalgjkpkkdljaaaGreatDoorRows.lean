/-
  NARROWER THAN 'FOR EVERY INPUT', by the rows' own cells (each row's printed sentence says how): ParserReturnsValidTrees: laid · ParserReadsParentheses: loops, laid · ParserPrecedence: laid · ParserIgnoresLayout: laid · ParserConcatenation: laid · ParserRecovers: laid · ParserValidSubtrees: loops, laid · PrinterRoundTrip: loops, laid · PrinterCanonical: laid · PrinterMinimal: loops, laid.
  DERIVED. THE GIVEN ROWS OF THIS SEAT. 10 by the template 'for every input the law returns true; each argument reads behind the call as it read before'; 0 by the template 'total and deterministic' (their statements: YtalgjkpkkdljaaaGreatDoorTotals.lean).
  GIVEN WITH THE SEED: the statements are not yours to turn. If you find one false, say at which input.
  Laid BY PROGRAM, IN A SANDBOX (cutbox-rows.mjs): the forced cells as the released guide's own fill.sh prints them over the translation e30a22f6c41b1af2… (all of the seat's roots in one cut). By AI agents, Wed Nov 11 2026. No macro, syntax, notation, axiom, sorry.
-/
import Derived.Test.YtalgjkpkkdljaaaGreatDoorChecked
import GoSem.Claim
import GoSem.ClaimJoined
import GoSem.ClaimMapViews
import Derived.JoinedTies
import Derived.KernelRfl
namespace Go.Proofs.YtalgjkpkkdljaaaGreatDoor
/- THE CELL 'sum', in the pinned program and in every row, IS THE sha256 OF THE DUMP (.gsa) THAT YtalgjkpkkdljaaaGreatDoorProg.lean LOADS. Nothing in Lean hashes anything: it is a label: what it is worth is what the hold of that sum in a sandbox is worth. -/
noncomputable def Tryz.pinned : Pinned := { name := "ytalgjkpkkdljaaagreatdoor", sum := "e30a22f6c41b1af2a8eeeb0b7e328f31d2e28aba8432dc767d7dd2267239a66b", checked := Tryz.checked }
namespace Rows
def none {H : Type} : Left H := { results := [], args := [] }

/- WHAT THE LISTED PACKAGE-LEVEL VARIABLES READ AS WHEN THE CALL BEGINS. Each datum BY PROGRAM (the guide's laid-datum.mjs) off the statement by which the dump's own 'gosem.cut.vars' lays the variable. In a bare row this is a premise. The card (YtalgjkpkkdljaaaGreatDoorCards.lean) ties it to the program's text. -/
def laid_math_bits_deBruijn32tab {H : Type} : DataW H := .agg [.lit (.int .u8 0), .lit (.int .u8 1), .lit (.int .u8 28), .lit (.int .u8 2), .lit (.int .u8 29), .lit (.int .u8 14), .lit (.int .u8 24), .lit (.int .u8 3), .lit (.int .u8 30), .lit (.int .u8 22), .lit (.int .u8 20), .lit (.int .u8 15), .lit (.int .u8 25), .lit (.int .u8 17), .lit (.int .u8 4), .lit (.int .u8 8), .lit (.int .u8 31), .lit (.int .u8 27), .lit (.int .u8 13), .lit (.int .u8 23), .lit (.int .u8 21), .lit (.int .u8 19), .lit (.int .u8 16), .lit (.int .u8 7), .lit (.int .u8 26), .lit (.int .u8 12), .lit (.int .u8 18), .lit (.int .u8 6), .lit (.int .u8 11), .lit (.int .u8 5), .lit (.int .u8 10), .lit (.int .u8 9)]
def laid_math_bits_deBruijn64tab {H : Type} : DataW H := .agg [.lit (.int .u8 0), .lit (.int .u8 1), .lit (.int .u8 56), .lit (.int .u8 2), .lit (.int .u8 57), .lit (.int .u8 49), .lit (.int .u8 28), .lit (.int .u8 3), .lit (.int .u8 61), .lit (.int .u8 58), .lit (.int .u8 42), .lit (.int .u8 50), .lit (.int .u8 38), .lit (.int .u8 29), .lit (.int .u8 17), .lit (.int .u8 4), .lit (.int .u8 62), .lit (.int .u8 47), .lit (.int .u8 59), .lit (.int .u8 36), .lit (.int .u8 45), .lit (.int .u8 43), .lit (.int .u8 51), .lit (.int .u8 22), .lit (.int .u8 53), .lit (.int .u8 39), .lit (.int .u8 33), .lit (.int .u8 30), .lit (.int .u8 24), .lit (.int .u8 18), .lit (.int .u8 12), .lit (.int .u8 5), .lit (.int .u8 63), .lit (.int .u8 55), .lit (.int .u8 48), .lit (.int .u8 27), .lit (.int .u8 60), .lit (.int .u8 41), .lit (.int .u8 37), .lit (.int .u8 16), .lit (.int .u8 46), .lit (.int .u8 35), .lit (.int .u8 44), .lit (.int .u8 21), .lit (.int .u8 52), .lit (.int .u8 32), .lit (.int .u8 23), .lit (.int .u8 11), .lit (.int .u8 54), .lit (.int .u8 26), .lit (.int .u8 40), .lit (.int .u8 15), .lit (.int .u8 34), .lit (.int .u8 20), .lit (.int .u8 31), .lit (.int .u8 10), .lit (.int .u8 25), .lit (.int .u8 14), .lit (.int .u8 19), .lit (.int .u8 9), .lit (.int .u8 13), .lit (.int .u8 8), .lit (.int .u8 7), .lit (.int .u8 6)]
def laid_internal_strconv_uint64pow10 {H : Type} : DataW H := .agg [.lit (.int .u64 1), .lit (.int .u64 10), .lit (.int .u64 100), .lit (.int .u64 1000), .lit (.int .u64 10000), .lit (.int .u64 100000), .lit (.int .u64 1000000), .lit (.int .u64 10000000), .lit (.int .u64 100000000), .lit (.int .u64 1000000000), .lit (.int .u64 10000000000), .lit (.int .u64 100000000000), .lit (.int .u64 1000000000000), .lit (.int .u64 10000000000000), .lit (.int .u64 100000000000000), .lit (.int .u64 1000000000000000), .lit (.int .u64 10000000000000000), .lit (.int .u64 100000000000000000), .lit (.int .u64 1000000000000000000), .lit (.int .u64 10000000000000000000)]
def laid_strconv_ErrRange {H : Type} : DataW H := .iface "*errors.errorString" (.ptr (.agg [.lit (.string [118, 97, 108, 117, 101, 32, 111, 117, 116, 32, 111, 102, 32, 114, 97, 110, 103, 101])]))
def laid_strconv_ErrSyntax {H : Type} : DataW H := .iface "*errors.errorString" (.ptr (.agg [.lit (.string [105, 110, 118, 97, 108, 105, 100, 32, 115, 121, 110, 116, 97, 120])]))
def laid_armature_lexer_symbols {H : Type} : DataW H := .agg [.lit (.string [60, 61, 62]), .lit (.string [60, 61]), .lit (.string [60]), .lit (.string [61, 62]), .lit (.string [61]), .lit (.string [33, 61]), .lit (.string [45, 62]), .lit (.string [45]), .lit (.string [43, 43]), .lit (.string [43]), .lit (.string [38, 38]), .lit (.string [38]), .lit (.string [124, 124]), .lit (.string [124]), .lit (.string [40]), .lit (.string [41]), .lit (.string [123]), .lit (.string [125]), .lit (.string [91]), .lit (.string [93]), .lit (.string [58]), .lit (.string [59]), .lit (.string [44]), .lit (.string [46]), .lit (.string [39]), .lit (.string [126]), .lit (.string [94]), .lit (.string [42]), .lit (.string [35])]

/-- 'armaturelaw02.ParserReturnsValidTrees': WHATEVER THE INPUT: true; the input reads as it did. -/
def parserReturnsValidTreesSpec : ChangeSpec := { name := "parserReturnsValidTrees", fn := fun _ => fun
  | [d] => { results := [.lit (.bool true)], args := [d] }
  | _ => none }
def parserReturnsValidTreesRow : OpenClaim := { program := "ytalgjkpkkdljaaagreatdoor", sum := "e30a22f6c41b1af2a8eeeb0b7e328f31d2e28aba8432dc767d7dd2267239a66b", func := "armature/armaturelaw02.ParserReturnsValidTrees", spec := "parserReturnsValidTrees", inPlace := ["internal/bytealg.IndexByteString", "internal/bytealg.IndexString", "internal/abi.NoEscape", "internal/bytealg.MakeNoZero"], unfollowed := true, recurses := true, named := ["armature/lexer.symbols", "internal/bytealg.MaxLen", "strconv.ErrSyntax", "strconv.ErrRange", "internal/strconv.uint64pow10", "math/bits.deBruijn32tab", "math/bits.deBruijn64tab"], apart := false, laid := [("math/bits.deBruijn32tab", laid_math_bits_deBruijn32tab), ("math/bits.deBruijn64tab", laid_math_bits_deBruijn64tab), ("internal/strconv.uint64pow10", laid_internal_strconv_uint64pow10), ("strconv.ErrRange", laid_strconv_ErrRange), ("strconv.ErrSyntax", laid_strconv_ErrSyntax), ("armature/lexer.symbols", laid_armature_lexer_symbols)] }
def ParserReturnsValidTreesSaid : Prop := parserReturnsValidTreesRow.holds Tryz.pinned (OpenSpec.ofChange parserReturnsValidTreesSpec)

/-- ITS FALSE NEIGHBOUR: 'it returns false'. Refute it at one input. -/
def parserReturnsValidTreesWrong : ChangeSpec := { name := "parserReturnsValidTrees", fn := fun _ => fun
  | [d] => { results := [.lit (.bool false)], args := [d] }
  | _ => none }
def ParserReturnsValidTreesWrongFalsely : Prop := parserReturnsValidTreesRow.holds Tryz.pinned (OpenSpec.ofChange parserReturnsValidTreesWrong)

/-- 'armaturelaw02.ParserReadsParentheses': WHATEVER THE INPUT: true; the input reads as it did. -/
def parserReadsParenthesesSpec : ChangeSpec := { name := "parserReadsParentheses", fn := fun _ => fun
  | [d] => { results := [.lit (.bool true)], args := [d] }
  | _ => none }
def parserReadsParenthesesRow : OpenClaim := { program := "ytalgjkpkkdljaaagreatdoor", sum := "e30a22f6c41b1af2a8eeeb0b7e328f31d2e28aba8432dc767d7dd2267239a66b", func := "armature/armaturelaw02.ParserReadsParentheses", spec := "parserReadsParentheses", inPlace := ["internal/bytealg.IndexByteString", "internal/bytealg.IndexString", "internal/abi.NoEscape", "internal/bytealg.MakeNoZero"], unfollowed := true, recurses := true, named := ["armature/lexer.symbols", "internal/bytealg.MaxLen", "strconv.ErrSyntax", "strconv.ErrRange", "internal/strconv.uint64pow10", "math/bits.deBruijn32tab", "math/bits.deBruijn64tab"], loops := true, apart := false, laid := [("math/bits.deBruijn32tab", laid_math_bits_deBruijn32tab), ("math/bits.deBruijn64tab", laid_math_bits_deBruijn64tab), ("internal/strconv.uint64pow10", laid_internal_strconv_uint64pow10), ("strconv.ErrRange", laid_strconv_ErrRange), ("strconv.ErrSyntax", laid_strconv_ErrSyntax), ("armature/lexer.symbols", laid_armature_lexer_symbols)] }
def ParserReadsParenthesesSaid : Prop := parserReadsParenthesesRow.holds Tryz.pinned (OpenSpec.ofChange parserReadsParenthesesSpec)

/-- ITS FALSE NEIGHBOUR: 'it returns false'. Refute it at one input. -/
def parserReadsParenthesesWrong : ChangeSpec := { name := "parserReadsParentheses", fn := fun _ => fun
  | [d] => { results := [.lit (.bool false)], args := [d] }
  | _ => none }
def ParserReadsParenthesesWrongFalsely : Prop := parserReadsParenthesesRow.holds Tryz.pinned (OpenSpec.ofChange parserReadsParenthesesWrong)

/-- 'armaturelaw02.ParserPrecedence': WHATEVER THE INPUT: true; the input reads as it did. -/
def parserPrecedenceSpec : ChangeSpec := { name := "parserPrecedence", fn := fun _ => fun
  | [d1, d2, d3] => { results := [.lit (.bool true)], args := [d1, d2, d3] }
  | _ => none }
def parserPrecedenceRow : OpenClaim := { program := "ytalgjkpkkdljaaagreatdoor", sum := "e30a22f6c41b1af2a8eeeb0b7e328f31d2e28aba8432dc767d7dd2267239a66b", func := "armature/armaturelaw02.ParserPrecedence", spec := "parserPrecedence", inPlace := ["internal/bytealg.IndexByteString", "internal/bytealg.IndexString", "internal/abi.NoEscape", "internal/bytealg.MakeNoZero"], unfollowed := true, recurses := true, named := ["armature/lexer.symbols", "internal/bytealg.MaxLen", "strconv.ErrSyntax", "strconv.ErrRange", "internal/strconv.uint64pow10", "math/bits.deBruijn32tab", "math/bits.deBruijn64tab"], apart := false, laid := [("math/bits.deBruijn32tab", laid_math_bits_deBruijn32tab), ("math/bits.deBruijn64tab", laid_math_bits_deBruijn64tab), ("internal/strconv.uint64pow10", laid_internal_strconv_uint64pow10), ("strconv.ErrRange", laid_strconv_ErrRange), ("strconv.ErrSyntax", laid_strconv_ErrSyntax), ("armature/lexer.symbols", laid_armature_lexer_symbols)] }
def ParserPrecedenceSaid : Prop := parserPrecedenceRow.holds Tryz.pinned (OpenSpec.ofChange parserPrecedenceSpec)

/-- ITS FALSE NEIGHBOUR: 'it returns false'. Refute it at one input. -/
def parserPrecedenceWrong : ChangeSpec := { name := "parserPrecedence", fn := fun _ => fun
  | [d1, d2, d3] => { results := [.lit (.bool false)], args := [d1, d2, d3] }
  | _ => none }
def ParserPrecedenceWrongFalsely : Prop := parserPrecedenceRow.holds Tryz.pinned (OpenSpec.ofChange parserPrecedenceWrong)

/-- 'armaturelaw02.ParserIgnoresLayout': WHATEVER THE INPUT: true; the input reads as it did. -/
def parserIgnoresLayoutSpec : ChangeSpec := { name := "parserIgnoresLayout", fn := fun _ => fun
  | [d1, d2] => { results := [.lit (.bool true)], args := [d1, d2] }
  | _ => none }
def parserIgnoresLayoutRow : OpenClaim := { program := "ytalgjkpkkdljaaagreatdoor", sum := "e30a22f6c41b1af2a8eeeb0b7e328f31d2e28aba8432dc767d7dd2267239a66b", func := "armature/armaturelaw02.ParserIgnoresLayout", spec := "parserIgnoresLayout", inPlace := ["internal/bytealg.IndexByteString", "internal/bytealg.IndexString", "internal/abi.NoEscape", "internal/bytealg.MakeNoZero"], unfollowed := true, recurses := true, named := ["armature/lexer.symbols", "internal/bytealg.MaxLen", "strconv.ErrSyntax", "strconv.ErrRange", "internal/strconv.uint64pow10", "math/bits.deBruijn32tab", "math/bits.deBruijn64tab"], apart := false, laid := [("math/bits.deBruijn32tab", laid_math_bits_deBruijn32tab), ("math/bits.deBruijn64tab", laid_math_bits_deBruijn64tab), ("internal/strconv.uint64pow10", laid_internal_strconv_uint64pow10), ("strconv.ErrRange", laid_strconv_ErrRange), ("strconv.ErrSyntax", laid_strconv_ErrSyntax), ("armature/lexer.symbols", laid_armature_lexer_symbols)] }
def ParserIgnoresLayoutSaid : Prop := parserIgnoresLayoutRow.holds Tryz.pinned (OpenSpec.ofChange parserIgnoresLayoutSpec)

/-- ITS FALSE NEIGHBOUR: 'it returns false'. Refute it at one input. -/
def parserIgnoresLayoutWrong : ChangeSpec := { name := "parserIgnoresLayout", fn := fun _ => fun
  | [d1, d2] => { results := [.lit (.bool false)], args := [d1, d2] }
  | _ => none }
def ParserIgnoresLayoutWrongFalsely : Prop := parserIgnoresLayoutRow.holds Tryz.pinned (OpenSpec.ofChange parserIgnoresLayoutWrong)

/-- 'armaturelaw02.ParserConcatenation': WHATEVER THE INPUT: true; the input reads as it did. -/
def parserConcatenationSpec : ChangeSpec := { name := "parserConcatenation", fn := fun _ => fun
  | [d1, d2] => { results := [.lit (.bool true)], args := [d1, d2] }
  | _ => none }
def parserConcatenationRow : OpenClaim := { program := "ytalgjkpkkdljaaagreatdoor", sum := "e30a22f6c41b1af2a8eeeb0b7e328f31d2e28aba8432dc767d7dd2267239a66b", func := "armature/armaturelaw02.ParserConcatenation", spec := "parserConcatenation", inPlace := ["internal/bytealg.IndexByteString", "internal/bytealg.IndexString", "internal/abi.NoEscape", "internal/bytealg.MakeNoZero"], unfollowed := true, recurses := true, named := ["armature/lexer.symbols", "internal/bytealg.MaxLen", "strconv.ErrSyntax", "strconv.ErrRange", "internal/strconv.uint64pow10", "math/bits.deBruijn32tab", "math/bits.deBruijn64tab"], apart := false, laid := [("math/bits.deBruijn32tab", laid_math_bits_deBruijn32tab), ("math/bits.deBruijn64tab", laid_math_bits_deBruijn64tab), ("internal/strconv.uint64pow10", laid_internal_strconv_uint64pow10), ("strconv.ErrRange", laid_strconv_ErrRange), ("strconv.ErrSyntax", laid_strconv_ErrSyntax), ("armature/lexer.symbols", laid_armature_lexer_symbols)] }
def ParserConcatenationSaid : Prop := parserConcatenationRow.holds Tryz.pinned (OpenSpec.ofChange parserConcatenationSpec)

/-- ITS FALSE NEIGHBOUR: 'it returns false'. Refute it at one input. -/
def parserConcatenationWrong : ChangeSpec := { name := "parserConcatenation", fn := fun _ => fun
  | [d1, d2] => { results := [.lit (.bool false)], args := [d1, d2] }
  | _ => none }
def ParserConcatenationWrongFalsely : Prop := parserConcatenationRow.holds Tryz.pinned (OpenSpec.ofChange parserConcatenationWrong)

/-- 'armaturelaw02.ParserRecovers': WHATEVER THE INPUT: true; the input reads as it did. -/
def parserRecoversSpec : ChangeSpec := { name := "parserRecovers", fn := fun _ => fun
  | [d1, d2, d3] => { results := [.lit (.bool true)], args := [d1, d2, d3] }
  | _ => none }
def parserRecoversRow : OpenClaim := { program := "ytalgjkpkkdljaaagreatdoor", sum := "e30a22f6c41b1af2a8eeeb0b7e328f31d2e28aba8432dc767d7dd2267239a66b", func := "armature/armaturelaw02.ParserRecovers", spec := "parserRecovers", inPlace := ["internal/bytealg.IndexByteString", "internal/bytealg.IndexString", "internal/abi.NoEscape", "internal/bytealg.MakeNoZero"], unfollowed := true, recurses := true, named := ["armature/lexer.symbols", "internal/bytealg.MaxLen", "strconv.ErrSyntax", "strconv.ErrRange", "internal/strconv.uint64pow10", "math/bits.deBruijn32tab", "math/bits.deBruijn64tab"], apart := false, laid := [("math/bits.deBruijn32tab", laid_math_bits_deBruijn32tab), ("math/bits.deBruijn64tab", laid_math_bits_deBruijn64tab), ("internal/strconv.uint64pow10", laid_internal_strconv_uint64pow10), ("strconv.ErrRange", laid_strconv_ErrRange), ("strconv.ErrSyntax", laid_strconv_ErrSyntax), ("armature/lexer.symbols", laid_armature_lexer_symbols)] }
def ParserRecoversSaid : Prop := parserRecoversRow.holds Tryz.pinned (OpenSpec.ofChange parserRecoversSpec)

/-- ITS FALSE NEIGHBOUR: 'it returns false'. Refute it at one input. -/
def parserRecoversWrong : ChangeSpec := { name := "parserRecovers", fn := fun _ => fun
  | [d1, d2, d3] => { results := [.lit (.bool false)], args := [d1, d2, d3] }
  | _ => none }
def ParserRecoversWrongFalsely : Prop := parserRecoversRow.holds Tryz.pinned (OpenSpec.ofChange parserRecoversWrong)

/-- 'armaturelaw02.ParserValidSubtrees': WHATEVER THE INPUT: true; the input reads as it did. -/
def parserValidSubtreesSpec : ChangeSpec := { name := "parserValidSubtrees", fn := fun _ => fun
  | [d1, d2] => { results := [.lit (.bool true)], args := [d1, d2] }
  | _ => none }
def parserValidSubtreesRow : OpenClaim := { program := "ytalgjkpkkdljaaagreatdoor", sum := "e30a22f6c41b1af2a8eeeb0b7e328f31d2e28aba8432dc767d7dd2267239a66b", func := "armature/armaturelaw02.ParserValidSubtrees", spec := "parserValidSubtrees", inPlace := ["internal/bytealg.IndexByteString", "internal/bytealg.IndexString", "internal/abi.NoEscape", "internal/bytealg.MakeNoZero"], unfollowed := true, recurses := true, named := ["armature/lexer.symbols", "internal/bytealg.MaxLen", "strconv.ErrSyntax", "strconv.ErrRange", "internal/strconv.uint64pow10", "math/bits.deBruijn32tab", "math/bits.deBruijn64tab"], loops := true, apart := false, laid := [("math/bits.deBruijn32tab", laid_math_bits_deBruijn32tab), ("math/bits.deBruijn64tab", laid_math_bits_deBruijn64tab), ("internal/strconv.uint64pow10", laid_internal_strconv_uint64pow10), ("strconv.ErrRange", laid_strconv_ErrRange), ("strconv.ErrSyntax", laid_strconv_ErrSyntax), ("armature/lexer.symbols", laid_armature_lexer_symbols)] }
def ParserValidSubtreesSaid : Prop := parserValidSubtreesRow.holds Tryz.pinned (OpenSpec.ofChange parserValidSubtreesSpec)

/-- ITS FALSE NEIGHBOUR: 'it returns false'. Refute it at one input. -/
def parserValidSubtreesWrong : ChangeSpec := { name := "parserValidSubtrees", fn := fun _ => fun
  | [d1, d2] => { results := [.lit (.bool false)], args := [d1, d2] }
  | _ => none }
def ParserValidSubtreesWrongFalsely : Prop := parserValidSubtreesRow.holds Tryz.pinned (OpenSpec.ofChange parserValidSubtreesWrong)

/-- 'armaturelaw03.PrinterRoundTrip': WHATEVER THE INPUT: true; the input reads as it did. -/
def printerRoundTripSpec : ChangeSpec := { name := "printerRoundTrip", fn := fun _ => fun
  | [d] => { results := [.lit (.bool true)], args := [d] }
  | _ => none }
def printerRoundTripRow : OpenClaim := { program := "ytalgjkpkkdljaaagreatdoor", sum := "e30a22f6c41b1af2a8eeeb0b7e328f31d2e28aba8432dc767d7dd2267239a66b", func := "armature/armaturelaw03.PrinterRoundTrip", spec := "printerRoundTrip", inPlace := ["internal/abi.NoEscape", "internal/bytealg.IndexByteString", "internal/bytealg.IndexString", "internal/bytealg.MakeNoZero"], unfollowed := true, recurses := true, named := ["internal/strconv.uint64pow10", "math/bits.deBruijn32tab", "math/bits.deBruijn64tab", "armature/lexer.symbols", "internal/bytealg.MaxLen", "strconv.ErrSyntax", "strconv.ErrRange"], loops := true, apart := false, laid := [("math/bits.deBruijn32tab", laid_math_bits_deBruijn32tab), ("math/bits.deBruijn64tab", laid_math_bits_deBruijn64tab), ("internal/strconv.uint64pow10", laid_internal_strconv_uint64pow10), ("strconv.ErrRange", laid_strconv_ErrRange), ("strconv.ErrSyntax", laid_strconv_ErrSyntax), ("armature/lexer.symbols", laid_armature_lexer_symbols)] }
def PrinterRoundTripSaid : Prop := printerRoundTripRow.holds Tryz.pinned (OpenSpec.ofChange printerRoundTripSpec)

/-- ITS FALSE NEIGHBOUR: 'it returns false'. Refute it at one input. -/
def printerRoundTripWrong : ChangeSpec := { name := "printerRoundTrip", fn := fun _ => fun
  | [d] => { results := [.lit (.bool false)], args := [d] }
  | _ => none }
def PrinterRoundTripWrongFalsely : Prop := printerRoundTripRow.holds Tryz.pinned (OpenSpec.ofChange printerRoundTripWrong)

/-- 'armaturelaw03.PrinterCanonical': WHATEVER THE INPUT: true; the input reads as it did. -/
def printerCanonicalSpec : ChangeSpec := { name := "printerCanonical", fn := fun _ => fun
  | [d1, d2] => { results := [.lit (.bool true)], args := [d1, d2] }
  | _ => none }
def printerCanonicalRow : OpenClaim := { program := "ytalgjkpkkdljaaagreatdoor", sum := "e30a22f6c41b1af2a8eeeb0b7e328f31d2e28aba8432dc767d7dd2267239a66b", func := "armature/armaturelaw03.PrinterCanonical", spec := "printerCanonical", inPlace := ["internal/abi.NoEscape", "internal/bytealg.IndexByteString", "internal/bytealg.IndexString", "internal/bytealg.MakeNoZero"], unfollowed := true, recurses := true, named := ["internal/strconv.uint64pow10", "math/bits.deBruijn32tab", "math/bits.deBruijn64tab", "armature/lexer.symbols", "internal/bytealg.MaxLen", "strconv.ErrSyntax", "strconv.ErrRange"], apart := false, laid := [("math/bits.deBruijn32tab", laid_math_bits_deBruijn32tab), ("math/bits.deBruijn64tab", laid_math_bits_deBruijn64tab), ("internal/strconv.uint64pow10", laid_internal_strconv_uint64pow10), ("strconv.ErrRange", laid_strconv_ErrRange), ("strconv.ErrSyntax", laid_strconv_ErrSyntax), ("armature/lexer.symbols", laid_armature_lexer_symbols)] }
def PrinterCanonicalSaid : Prop := printerCanonicalRow.holds Tryz.pinned (OpenSpec.ofChange printerCanonicalSpec)

/-- ITS FALSE NEIGHBOUR: 'it returns false'. Refute it at one input. -/
def printerCanonicalWrong : ChangeSpec := { name := "printerCanonical", fn := fun _ => fun
  | [d1, d2] => { results := [.lit (.bool false)], args := [d1, d2] }
  | _ => none }
def PrinterCanonicalWrongFalsely : Prop := printerCanonicalRow.holds Tryz.pinned (OpenSpec.ofChange printerCanonicalWrong)

/-- 'armaturelaw03.PrinterMinimal': WHATEVER THE INPUT: true; the input reads as it did. -/
def printerMinimalSpec : ChangeSpec := { name := "printerMinimal", fn := fun _ => fun
  | [d] => { results := [.lit (.bool true)], args := [d] }
  | _ => none }
def printerMinimalRow : OpenClaim := { program := "ytalgjkpkkdljaaagreatdoor", sum := "e30a22f6c41b1af2a8eeeb0b7e328f31d2e28aba8432dc767d7dd2267239a66b", func := "armature/armaturelaw03.PrinterMinimal", spec := "printerMinimal", inPlace := ["internal/abi.NoEscape", "internal/bytealg.IndexByteString", "internal/bytealg.IndexString", "internal/bytealg.MakeNoZero"], unfollowed := true, recurses := true, named := ["internal/strconv.uint64pow10", "math/bits.deBruijn32tab", "math/bits.deBruijn64tab", "armature/lexer.symbols", "internal/bytealg.MaxLen", "strconv.ErrSyntax", "strconv.ErrRange"], loops := true, apart := false, laid := [("math/bits.deBruijn32tab", laid_math_bits_deBruijn32tab), ("math/bits.deBruijn64tab", laid_math_bits_deBruijn64tab), ("internal/strconv.uint64pow10", laid_internal_strconv_uint64pow10), ("strconv.ErrRange", laid_strconv_ErrRange), ("strconv.ErrSyntax", laid_strconv_ErrSyntax), ("armature/lexer.symbols", laid_armature_lexer_symbols)] }
def PrinterMinimalSaid : Prop := printerMinimalRow.holds Tryz.pinned (OpenSpec.ofChange printerMinimalSpec)

/-- ITS FALSE NEIGHBOUR: 'it returns false'. Refute it at one input. -/
def printerMinimalWrong : ChangeSpec := { name := "printerMinimal", fn := fun _ => fun
  | [d] => { results := [.lit (.bool false)], args := [d] }
  | _ => none }
def PrinterMinimalWrongFalsely : Prop := printerMinimalRow.holds Tryz.pinned (OpenSpec.ofChange printerMinimalWrong)

/- THE SECOND FORM. 'bulk': how many values and letters a reading holds, each counted each time it is reached (what is shared counts as often as it is met; a slice's spare places count too). A statement '..UptoSaid' is the law's where the arguments, and the package variables that the reading takes, are together of bulk at most 1048576: NARROWER than '..Said'. Prove '..Said' where nothing that the law and all that it calls make is longer than what came in: it says more and counts as full. Else prove '..UptoSaid'. A law counts once. -/
mutual
def uptoBulk {H : Type} : DataW H → Nat
  | .lit (.string bytes) => bytes.length + 1
  | .lit _ => 1
  | .nil => 1
  | .ptr d => uptoBulk d + 1
  | .slice elems spare => uptoBulkAll elems + uptoBulkAll spare + 1
  | .agg parts => uptoBulkAll parts + 1
  | .iface _ d => uptoBulk d + 1
  | .map entries => uptoBulkEntries entries + 1
  | .held _ => 1
def uptoBulkAll {H : Type} : List (DataW H) → Nat
  | [] => 0
  | d :: r => uptoBulk d + uptoBulkAll r
def uptoBulkEntries {H : Type} : List (Lit × DataW H) → Nat
  | [] => 0
  | x :: r => uptoBulkEntry x + uptoBulkEntries r
def uptoBulkEntry {H : Type} : Lit × DataW H → Nat
  | (.string bytes, d) => bytes.length + uptoBulk d + 1
  | (_, d) => uptoBulk d + 1
 end
def uptoSmall : (H : Type) → List (DataW H) → Bool := fun _ ds => decide (uptoBulkAll ds ≤ 1048576)
def OpenSpec.upto (s : _root_.Go.ChangeSpec) : _root_.Go.OpenSpec := { _root_.Go.OpenSpec.ofChange s with cond := some uptoSmall }

/-- 'armaturelaw02.ParserReturnsValidTrees', WHERE WHAT IT READS IS OF BULK AT MOST 1048576: true; the input reads as it did. -/
def parserReturnsValidTreesUptoRow : OpenClaim := { program := "ytalgjkpkkdljaaagreatdoor", sum := "e30a22f6c41b1af2a8eeeb0b7e328f31d2e28aba8432dc767d7dd2267239a66b", func := "armature/armaturelaw02.ParserReturnsValidTrees", spec := "parserReturnsValidTrees", inPlace := ["internal/bytealg.IndexByteString", "internal/bytealg.IndexString", "internal/abi.NoEscape", "internal/bytealg.MakeNoZero"], unfollowed := true, recurses := true, named := ["armature/lexer.symbols", "internal/bytealg.MaxLen", "strconv.ErrSyntax", "strconv.ErrRange", "internal/strconv.uint64pow10", "math/bits.deBruijn32tab", "math/bits.deBruijn64tab"], apart := false, laid := [("math/bits.deBruijn32tab", laid_math_bits_deBruijn32tab), ("math/bits.deBruijn64tab", laid_math_bits_deBruijn64tab), ("internal/strconv.uint64pow10", laid_internal_strconv_uint64pow10), ("strconv.ErrRange", laid_strconv_ErrRange), ("strconv.ErrSyntax", laid_strconv_ErrSyntax), ("armature/lexer.symbols", laid_armature_lexer_symbols)], narrowed := true }
def ParserReturnsValidTreesUptoSaid : Prop := parserReturnsValidTreesUptoRow.holds Tryz.pinned (OpenSpec.upto parserReturnsValidTreesSpec)

/-- 'armaturelaw02.ParserReadsParentheses', WHERE WHAT IT READS IS OF BULK AT MOST 1048576: true; the input reads as it did. -/
def parserReadsParenthesesUptoRow : OpenClaim := { program := "ytalgjkpkkdljaaagreatdoor", sum := "e30a22f6c41b1af2a8eeeb0b7e328f31d2e28aba8432dc767d7dd2267239a66b", func := "armature/armaturelaw02.ParserReadsParentheses", spec := "parserReadsParentheses", inPlace := ["internal/bytealg.IndexByteString", "internal/bytealg.IndexString", "internal/abi.NoEscape", "internal/bytealg.MakeNoZero"], unfollowed := true, recurses := true, named := ["armature/lexer.symbols", "internal/bytealg.MaxLen", "strconv.ErrSyntax", "strconv.ErrRange", "internal/strconv.uint64pow10", "math/bits.deBruijn32tab", "math/bits.deBruijn64tab"], loops := true, apart := false, laid := [("math/bits.deBruijn32tab", laid_math_bits_deBruijn32tab), ("math/bits.deBruijn64tab", laid_math_bits_deBruijn64tab), ("internal/strconv.uint64pow10", laid_internal_strconv_uint64pow10), ("strconv.ErrRange", laid_strconv_ErrRange), ("strconv.ErrSyntax", laid_strconv_ErrSyntax), ("armature/lexer.symbols", laid_armature_lexer_symbols)], narrowed := true }
def ParserReadsParenthesesUptoSaid : Prop := parserReadsParenthesesUptoRow.holds Tryz.pinned (OpenSpec.upto parserReadsParenthesesSpec)

/-- 'armaturelaw02.ParserPrecedence', WHERE WHAT IT READS IS OF BULK AT MOST 1048576: true; the input reads as it did. -/
def parserPrecedenceUptoRow : OpenClaim := { program := "ytalgjkpkkdljaaagreatdoor", sum := "e30a22f6c41b1af2a8eeeb0b7e328f31d2e28aba8432dc767d7dd2267239a66b", func := "armature/armaturelaw02.ParserPrecedence", spec := "parserPrecedence", inPlace := ["internal/bytealg.IndexByteString", "internal/bytealg.IndexString", "internal/abi.NoEscape", "internal/bytealg.MakeNoZero"], unfollowed := true, recurses := true, named := ["armature/lexer.symbols", "internal/bytealg.MaxLen", "strconv.ErrSyntax", "strconv.ErrRange", "internal/strconv.uint64pow10", "math/bits.deBruijn32tab", "math/bits.deBruijn64tab"], apart := false, laid := [("math/bits.deBruijn32tab", laid_math_bits_deBruijn32tab), ("math/bits.deBruijn64tab", laid_math_bits_deBruijn64tab), ("internal/strconv.uint64pow10", laid_internal_strconv_uint64pow10), ("strconv.ErrRange", laid_strconv_ErrRange), ("strconv.ErrSyntax", laid_strconv_ErrSyntax), ("armature/lexer.symbols", laid_armature_lexer_symbols)], narrowed := true }
def ParserPrecedenceUptoSaid : Prop := parserPrecedenceUptoRow.holds Tryz.pinned (OpenSpec.upto parserPrecedenceSpec)

/-- 'armaturelaw02.ParserIgnoresLayout', WHERE WHAT IT READS IS OF BULK AT MOST 1048576: true; the input reads as it did. -/
def parserIgnoresLayoutUptoRow : OpenClaim := { program := "ytalgjkpkkdljaaagreatdoor", sum := "e30a22f6c41b1af2a8eeeb0b7e328f31d2e28aba8432dc767d7dd2267239a66b", func := "armature/armaturelaw02.ParserIgnoresLayout", spec := "parserIgnoresLayout", inPlace := ["internal/bytealg.IndexByteString", "internal/bytealg.IndexString", "internal/abi.NoEscape", "internal/bytealg.MakeNoZero"], unfollowed := true, recurses := true, named := ["armature/lexer.symbols", "internal/bytealg.MaxLen", "strconv.ErrSyntax", "strconv.ErrRange", "internal/strconv.uint64pow10", "math/bits.deBruijn32tab", "math/bits.deBruijn64tab"], apart := false, laid := [("math/bits.deBruijn32tab", laid_math_bits_deBruijn32tab), ("math/bits.deBruijn64tab", laid_math_bits_deBruijn64tab), ("internal/strconv.uint64pow10", laid_internal_strconv_uint64pow10), ("strconv.ErrRange", laid_strconv_ErrRange), ("strconv.ErrSyntax", laid_strconv_ErrSyntax), ("armature/lexer.symbols", laid_armature_lexer_symbols)], narrowed := true }
def ParserIgnoresLayoutUptoSaid : Prop := parserIgnoresLayoutUptoRow.holds Tryz.pinned (OpenSpec.upto parserIgnoresLayoutSpec)

/-- 'armaturelaw02.ParserConcatenation', WHERE WHAT IT READS IS OF BULK AT MOST 1048576: true; the input reads as it did. -/
def parserConcatenationUptoRow : OpenClaim := { program := "ytalgjkpkkdljaaagreatdoor", sum := "e30a22f6c41b1af2a8eeeb0b7e328f31d2e28aba8432dc767d7dd2267239a66b", func := "armature/armaturelaw02.ParserConcatenation", spec := "parserConcatenation", inPlace := ["internal/bytealg.IndexByteString", "internal/bytealg.IndexString", "internal/abi.NoEscape", "internal/bytealg.MakeNoZero"], unfollowed := true, recurses := true, named := ["armature/lexer.symbols", "internal/bytealg.MaxLen", "strconv.ErrSyntax", "strconv.ErrRange", "internal/strconv.uint64pow10", "math/bits.deBruijn32tab", "math/bits.deBruijn64tab"], apart := false, laid := [("math/bits.deBruijn32tab", laid_math_bits_deBruijn32tab), ("math/bits.deBruijn64tab", laid_math_bits_deBruijn64tab), ("internal/strconv.uint64pow10", laid_internal_strconv_uint64pow10), ("strconv.ErrRange", laid_strconv_ErrRange), ("strconv.ErrSyntax", laid_strconv_ErrSyntax), ("armature/lexer.symbols", laid_armature_lexer_symbols)], narrowed := true }
def ParserConcatenationUptoSaid : Prop := parserConcatenationUptoRow.holds Tryz.pinned (OpenSpec.upto parserConcatenationSpec)

/-- 'armaturelaw02.ParserRecovers', WHERE WHAT IT READS IS OF BULK AT MOST 1048576: true; the input reads as it did. -/
def parserRecoversUptoRow : OpenClaim := { program := "ytalgjkpkkdljaaagreatdoor", sum := "e30a22f6c41b1af2a8eeeb0b7e328f31d2e28aba8432dc767d7dd2267239a66b", func := "armature/armaturelaw02.ParserRecovers", spec := "parserRecovers", inPlace := ["internal/bytealg.IndexByteString", "internal/bytealg.IndexString", "internal/abi.NoEscape", "internal/bytealg.MakeNoZero"], unfollowed := true, recurses := true, named := ["armature/lexer.symbols", "internal/bytealg.MaxLen", "strconv.ErrSyntax", "strconv.ErrRange", "internal/strconv.uint64pow10", "math/bits.deBruijn32tab", "math/bits.deBruijn64tab"], apart := false, laid := [("math/bits.deBruijn32tab", laid_math_bits_deBruijn32tab), ("math/bits.deBruijn64tab", laid_math_bits_deBruijn64tab), ("internal/strconv.uint64pow10", laid_internal_strconv_uint64pow10), ("strconv.ErrRange", laid_strconv_ErrRange), ("strconv.ErrSyntax", laid_strconv_ErrSyntax), ("armature/lexer.symbols", laid_armature_lexer_symbols)], narrowed := true }
def ParserRecoversUptoSaid : Prop := parserRecoversUptoRow.holds Tryz.pinned (OpenSpec.upto parserRecoversSpec)

/-- 'armaturelaw02.ParserValidSubtrees', WHERE WHAT IT READS IS OF BULK AT MOST 1048576: true; the input reads as it did. -/
def parserValidSubtreesUptoRow : OpenClaim := { program := "ytalgjkpkkdljaaagreatdoor", sum := "e30a22f6c41b1af2a8eeeb0b7e328f31d2e28aba8432dc767d7dd2267239a66b", func := "armature/armaturelaw02.ParserValidSubtrees", spec := "parserValidSubtrees", inPlace := ["internal/bytealg.IndexByteString", "internal/bytealg.IndexString", "internal/abi.NoEscape", "internal/bytealg.MakeNoZero"], unfollowed := true, recurses := true, named := ["armature/lexer.symbols", "internal/bytealg.MaxLen", "strconv.ErrSyntax", "strconv.ErrRange", "internal/strconv.uint64pow10", "math/bits.deBruijn32tab", "math/bits.deBruijn64tab"], loops := true, apart := false, laid := [("math/bits.deBruijn32tab", laid_math_bits_deBruijn32tab), ("math/bits.deBruijn64tab", laid_math_bits_deBruijn64tab), ("internal/strconv.uint64pow10", laid_internal_strconv_uint64pow10), ("strconv.ErrRange", laid_strconv_ErrRange), ("strconv.ErrSyntax", laid_strconv_ErrSyntax), ("armature/lexer.symbols", laid_armature_lexer_symbols)], narrowed := true }
def ParserValidSubtreesUptoSaid : Prop := parserValidSubtreesUptoRow.holds Tryz.pinned (OpenSpec.upto parserValidSubtreesSpec)

/-- 'armaturelaw03.PrinterRoundTrip', WHERE WHAT IT READS IS OF BULK AT MOST 1048576: true; the input reads as it did. -/
def printerRoundTripUptoRow : OpenClaim := { program := "ytalgjkpkkdljaaagreatdoor", sum := "e30a22f6c41b1af2a8eeeb0b7e328f31d2e28aba8432dc767d7dd2267239a66b", func := "armature/armaturelaw03.PrinterRoundTrip", spec := "printerRoundTrip", inPlace := ["internal/abi.NoEscape", "internal/bytealg.IndexByteString", "internal/bytealg.IndexString", "internal/bytealg.MakeNoZero"], unfollowed := true, recurses := true, named := ["internal/strconv.uint64pow10", "math/bits.deBruijn32tab", "math/bits.deBruijn64tab", "armature/lexer.symbols", "internal/bytealg.MaxLen", "strconv.ErrSyntax", "strconv.ErrRange"], loops := true, apart := false, laid := [("math/bits.deBruijn32tab", laid_math_bits_deBruijn32tab), ("math/bits.deBruijn64tab", laid_math_bits_deBruijn64tab), ("internal/strconv.uint64pow10", laid_internal_strconv_uint64pow10), ("strconv.ErrRange", laid_strconv_ErrRange), ("strconv.ErrSyntax", laid_strconv_ErrSyntax), ("armature/lexer.symbols", laid_armature_lexer_symbols)], narrowed := true }
def PrinterRoundTripUptoSaid : Prop := printerRoundTripUptoRow.holds Tryz.pinned (OpenSpec.upto printerRoundTripSpec)

/-- 'armaturelaw03.PrinterCanonical', WHERE WHAT IT READS IS OF BULK AT MOST 1048576: true; the input reads as it did. -/
def printerCanonicalUptoRow : OpenClaim := { program := "ytalgjkpkkdljaaagreatdoor", sum := "e30a22f6c41b1af2a8eeeb0b7e328f31d2e28aba8432dc767d7dd2267239a66b", func := "armature/armaturelaw03.PrinterCanonical", spec := "printerCanonical", inPlace := ["internal/abi.NoEscape", "internal/bytealg.IndexByteString", "internal/bytealg.IndexString", "internal/bytealg.MakeNoZero"], unfollowed := true, recurses := true, named := ["internal/strconv.uint64pow10", "math/bits.deBruijn32tab", "math/bits.deBruijn64tab", "armature/lexer.symbols", "internal/bytealg.MaxLen", "strconv.ErrSyntax", "strconv.ErrRange"], apart := false, laid := [("math/bits.deBruijn32tab", laid_math_bits_deBruijn32tab), ("math/bits.deBruijn64tab", laid_math_bits_deBruijn64tab), ("internal/strconv.uint64pow10", laid_internal_strconv_uint64pow10), ("strconv.ErrRange", laid_strconv_ErrRange), ("strconv.ErrSyntax", laid_strconv_ErrSyntax), ("armature/lexer.symbols", laid_armature_lexer_symbols)], narrowed := true }
def PrinterCanonicalUptoSaid : Prop := printerCanonicalUptoRow.holds Tryz.pinned (OpenSpec.upto printerCanonicalSpec)

/-- 'armaturelaw03.PrinterMinimal', WHERE WHAT IT READS IS OF BULK AT MOST 1048576: true; the input reads as it did. -/
def printerMinimalUptoRow : OpenClaim := { program := "ytalgjkpkkdljaaagreatdoor", sum := "e30a22f6c41b1af2a8eeeb0b7e328f31d2e28aba8432dc767d7dd2267239a66b", func := "armature/armaturelaw03.PrinterMinimal", spec := "printerMinimal", inPlace := ["internal/abi.NoEscape", "internal/bytealg.IndexByteString", "internal/bytealg.IndexString", "internal/bytealg.MakeNoZero"], unfollowed := true, recurses := true, named := ["internal/strconv.uint64pow10", "math/bits.deBruijn32tab", "math/bits.deBruijn64tab", "armature/lexer.symbols", "internal/bytealg.MaxLen", "strconv.ErrSyntax", "strconv.ErrRange"], loops := true, apart := false, laid := [("math/bits.deBruijn32tab", laid_math_bits_deBruijn32tab), ("math/bits.deBruijn64tab", laid_math_bits_deBruijn64tab), ("internal/strconv.uint64pow10", laid_internal_strconv_uint64pow10), ("strconv.ErrRange", laid_strconv_ErrRange), ("strconv.ErrSyntax", laid_strconv_ErrSyntax), ("armature/lexer.symbols", laid_armature_lexer_symbols)], narrowed := true }
def PrinterMinimalUptoSaid : Prop := printerMinimalUptoRow.holds Tryz.pinned (OpenSpec.upto printerMinimalSpec)

end Rows
end Go.Proofs.YtalgjkpkkdljaaaGreatDoor
