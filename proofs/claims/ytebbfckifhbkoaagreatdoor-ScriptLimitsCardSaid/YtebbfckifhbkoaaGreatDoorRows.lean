/-
  NARROWER THAN 'FOR EVERY INPUT', by the rows' own cells (each row's printed sentence says how): ScriptMatchesReference: laid · ScriptRoundTrip: laid · ScriptConcatenation: laid · ScriptIgnored: laid · ScriptFirstError: laid · ScriptLimits: laid.
  DERIVED. THE GIVEN ROWS OF THIS SEAT. 6 by the template 'for every input the law returns true; each argument reads behind the call as it read before'; 0 by the template 'total and deterministic' (their statements: YtebbfckifhbkoaaGreatDoorTotals.lean).
  GIVEN WITH THE SEED: the statements are not yours to turn. If you find one false, say at which input.
  Laid BY PROGRAM, IN A SANDBOX (cutbox-rows.mjs): the forced cells as the released guide's own fill.sh prints them over the translation 7c0b8dee9e37da8d… (all of the seat's roots in one cut). By AI agents, Wed Nov 11 2026. No macro, syntax, notation, axiom, sorry.
-/
import Derived.Test.YtebbfckifhbkoaaGreatDoorChecked
import GoSem.PinnedTables
import GoSem.Claim
import GoSem.ClaimJoined
import GoSem.ClaimMapViews
import Derived.JoinedTies
import Derived.KernelRfl
namespace Go.Proofs.YtebbfckifhbkoaaGreatDoor
/- THE CELL 'sum', in the pinned program and in every row, IS THE sha256 OF THE DUMP (.gsa) THAT YtebbfckifhbkoaaGreatDoorProg.lean LOADS. Nothing in Lean hashes anything: it is a label: what it is worth is what the hold of that sum in a sandbox is worth. -/
noncomputable def Tryz.pinned : Pinned := { name := "ytebbfckifhbkoaagreatdoor", sum := "7c0b8dee9e37da8dd763a9ebe40eba331fbf77d9f71ee7b860f59d3a676aaec1", checked := Tryz.checked }
namespace Rows
def none {H : Type} : Left H := { results := [], args := [] }

/- WHAT THE LISTED PACKAGE-LEVEL VARIABLES READ AS WHEN THE CALL BEGINS. Each datum BY PROGRAM (the guide's laid-datum.mjs) off the statement by which the dump's own 'gosem.cut.vars' lays the variable. In a bare row this is a premise. The card (YtebbfckifhbkoaaGreatDoorCards.lean) ties it to the program's text. -/
def laid_armature_script_rows {H : Type} : DataW H := .agg [.agg [.lit (.string []), .lit (.int .i64 0), .lit (.int .i64 0), .lit (.bool false)], .agg [.lit (.string [115, 112, 101, 99]), .lit (.int .i64 0), .lit (.int .i64 0), .lit (.bool true)], .agg [.lit (.string [115, 99, 111, 112, 101]), .lit (.int .i64 1), .lit (.int .i64 8), .lit (.bool false)], .agg [.lit (.string [114, 117, 110]), .lit (.int .i64 0), .lit (.int .i64 0), .lit (.bool true)], .agg [.lit (.string [99, 104, 101, 99, 107]), .lit (.int .i64 0), .lit (.int .i64 0), .lit (.bool true)], .agg [.lit (.string [110, 101, 120, 116]), .lit (.int .i64 0), .lit (.int .i64 0), .lit (.bool false)], .agg [.lit (.string [101, 100, 105, 116]), .lit (.int .i64 4), .lit (.int .i64 4), .lit (.bool false)], .agg [.lit (.string [114, 101, 112, 97, 105, 114]), .lit (.int .i64 0), .lit (.int .i64 0), .lit (.bool false)], .agg [.lit (.string [99, 111, 114, 101]), .lit (.int .i64 0), .lit (.int .i64 0), .lit (.bool false)], .agg [.lit (.string [115, 104, 111, 119]), .lit (.int .i64 0), .lit (.int .i64 0), .lit (.bool false)]]
/-- One of Go's own tables, pinned by name: the form's constant. -/
def laid_unicode_utf8_first : DataW Unit := Go.Pinned.utf8First
def laid_unicode_utf8_acceptRanges {H : Type} : DataW H := .agg [.agg [.lit (.int .u8 128), .lit (.int .u8 191)], .agg [.lit (.int .u8 160), .lit (.int .u8 191)], .agg [.lit (.int .u8 128), .lit (.int .u8 159)], .agg [.lit (.int .u8 144), .lit (.int .u8 191)], .agg [.lit (.int .u8 128), .lit (.int .u8 143)], .agg [.lit (.int .u8 0), .lit (.int .u8 0)], .agg [.lit (.int .u8 0), .lit (.int .u8 0)], .agg [.lit (.int .u8 0), .lit (.int .u8 0)], .agg [.lit (.int .u8 0), .lit (.int .u8 0)], .agg [.lit (.int .u8 0), .lit (.int .u8 0)], .agg [.lit (.int .u8 0), .lit (.int .u8 0)], .agg [.lit (.int .u8 0), .lit (.int .u8 0)], .agg [.lit (.int .u8 0), .lit (.int .u8 0)], .agg [.lit (.int .u8 0), .lit (.int .u8 0)], .agg [.lit (.int .u8 0), .lit (.int .u8 0)], .agg [.lit (.int .u8 0), .lit (.int .u8 0)]]
def laid_strconv_ErrSyntax {H : Type} : DataW H := .iface "*errors.errorString" (.ptr (.agg [.lit (.string [105, 110, 118, 97, 108, 105, 100, 32, 115, 121, 110, 116, 97, 120])]))
def laid_strconv_ErrRange {H : Type} : DataW H := .iface "*errors.errorString" (.ptr (.agg [.lit (.string [118, 97, 108, 117, 101, 32, 111, 117, 116, 32, 111, 102, 32, 114, 97, 110, 103, 101])]))
def laid_internal_strconv_uint64pow10 {H : Type} : DataW H := .agg [.lit (.int .u64 1), .lit (.int .u64 10), .lit (.int .u64 100), .lit (.int .u64 1000), .lit (.int .u64 10000), .lit (.int .u64 100000), .lit (.int .u64 1000000), .lit (.int .u64 10000000), .lit (.int .u64 100000000), .lit (.int .u64 1000000000), .lit (.int .u64 10000000000), .lit (.int .u64 100000000000), .lit (.int .u64 1000000000000), .lit (.int .u64 10000000000000), .lit (.int .u64 100000000000000), .lit (.int .u64 1000000000000000), .lit (.int .u64 10000000000000000), .lit (.int .u64 100000000000000000), .lit (.int .u64 1000000000000000000), .lit (.int .u64 10000000000000000000)]
def laid_math_bits_deBruijn32tab {H : Type} : DataW H := .agg [.lit (.int .u8 0), .lit (.int .u8 1), .lit (.int .u8 28), .lit (.int .u8 2), .lit (.int .u8 29), .lit (.int .u8 14), .lit (.int .u8 24), .lit (.int .u8 3), .lit (.int .u8 30), .lit (.int .u8 22), .lit (.int .u8 20), .lit (.int .u8 15), .lit (.int .u8 25), .lit (.int .u8 17), .lit (.int .u8 4), .lit (.int .u8 8), .lit (.int .u8 31), .lit (.int .u8 27), .lit (.int .u8 13), .lit (.int .u8 23), .lit (.int .u8 21), .lit (.int .u8 19), .lit (.int .u8 16), .lit (.int .u8 7), .lit (.int .u8 26), .lit (.int .u8 12), .lit (.int .u8 18), .lit (.int .u8 6), .lit (.int .u8 11), .lit (.int .u8 5), .lit (.int .u8 10), .lit (.int .u8 9)]
def laid_math_bits_deBruijn64tab {H : Type} : DataW H := .agg [.lit (.int .u8 0), .lit (.int .u8 1), .lit (.int .u8 56), .lit (.int .u8 2), .lit (.int .u8 57), .lit (.int .u8 49), .lit (.int .u8 28), .lit (.int .u8 3), .lit (.int .u8 61), .lit (.int .u8 58), .lit (.int .u8 42), .lit (.int .u8 50), .lit (.int .u8 38), .lit (.int .u8 29), .lit (.int .u8 17), .lit (.int .u8 4), .lit (.int .u8 62), .lit (.int .u8 47), .lit (.int .u8 59), .lit (.int .u8 36), .lit (.int .u8 45), .lit (.int .u8 43), .lit (.int .u8 51), .lit (.int .u8 22), .lit (.int .u8 53), .lit (.int .u8 39), .lit (.int .u8 33), .lit (.int .u8 30), .lit (.int .u8 24), .lit (.int .u8 18), .lit (.int .u8 12), .lit (.int .u8 5), .lit (.int .u8 63), .lit (.int .u8 55), .lit (.int .u8 48), .lit (.int .u8 27), .lit (.int .u8 60), .lit (.int .u8 41), .lit (.int .u8 37), .lit (.int .u8 16), .lit (.int .u8 46), .lit (.int .u8 35), .lit (.int .u8 44), .lit (.int .u8 21), .lit (.int .u8 52), .lit (.int .u8 32), .lit (.int .u8 23), .lit (.int .u8 11), .lit (.int .u8 54), .lit (.int .u8 26), .lit (.int .u8 40), .lit (.int .u8 15), .lit (.int .u8 34), .lit (.int .u8 20), .lit (.int .u8 31), .lit (.int .u8 10), .lit (.int .u8 25), .lit (.int .u8 14), .lit (.int .u8 19), .lit (.int .u8 9), .lit (.int .u8 13), .lit (.int .u8 8), .lit (.int .u8 7), .lit (.int .u8 6)]
def laid_armature_lexer_symbols {H : Type} : DataW H := .agg [.lit (.string [60, 61, 62]), .lit (.string [60, 61]), .lit (.string [60]), .lit (.string [61, 62]), .lit (.string [61]), .lit (.string [33, 61]), .lit (.string [45, 62]), .lit (.string [45]), .lit (.string [43, 43]), .lit (.string [43]), .lit (.string [38, 38]), .lit (.string [38]), .lit (.string [124, 124]), .lit (.string [124]), .lit (.string [40]), .lit (.string [41]), .lit (.string [123]), .lit (.string [125]), .lit (.string [91]), .lit (.string [93]), .lit (.string [58]), .lit (.string [59]), .lit (.string [44]), .lit (.string [46]), .lit (.string [39]), .lit (.string [126]), .lit (.string [94]), .lit (.string [42]), .lit (.string [35])]

/-- 'armaturelaw36.ScriptMatchesReference': WHATEVER THE INPUT: true; the input reads as it did. -/
def scriptMatchesReferenceSpec : ChangeSpec := { name := "scriptMatchesReference", fn := fun _ => fun
  | [d1, d2] => { results := [.lit (.bool true)], args := [d1, d2] }
  | _ => none }
def scriptMatchesReferenceRow : OpenClaim := { program := "ytebbfckifhbkoaagreatdoor", sum := "7c0b8dee9e37da8dd763a9ebe40eba331fbf77d9f71ee7b860f59d3a676aaec1", func := "armature/armaturelaw36.ScriptMatchesReference", spec := "scriptMatchesReference", inPlace := ["internal/bytealg.CountString", "internal/bytealg.IndexByteString", "internal/bytealg.IndexString", "internal/abi.NoEscape", "internal/bytealg.MakeNoZero", "slices.overlaps[int]"], unfollowed := true, recurses := true, named := ["armature/script.rows", "unicode/utf8.first", "unicode/utf8.acceptRanges", "internal/bytealg.MaxLen", "strconv.ErrSyntax", "strconv.ErrRange", "internal/strconv.uint64pow10", "math/bits.deBruijn32tab", "math/bits.deBruijn64tab", "armature/lexer.symbols"], plainKeys := false, apart := false, laid := [("armature/script.rows", laid_armature_script_rows), ("unicode/utf8.first", laid_unicode_utf8_first), ("unicode/utf8.acceptRanges", laid_unicode_utf8_acceptRanges), ("strconv.ErrSyntax", laid_strconv_ErrSyntax), ("strconv.ErrRange", laid_strconv_ErrRange), ("internal/strconv.uint64pow10", laid_internal_strconv_uint64pow10), ("math/bits.deBruijn32tab", laid_math_bits_deBruijn32tab), ("math/bits.deBruijn64tab", laid_math_bits_deBruijn64tab), ("armature/lexer.symbols", laid_armature_lexer_symbols)] }
def ScriptMatchesReferenceSaid : Prop := scriptMatchesReferenceRow.holds Tryz.pinned (OpenSpec.ofChange scriptMatchesReferenceSpec)

/-- ITS FALSE NEIGHBOUR: 'it returns false'. Refute it at one input. -/
def scriptMatchesReferenceWrong : ChangeSpec := { name := "scriptMatchesReference", fn := fun _ => fun
  | [d1, d2] => { results := [.lit (.bool false)], args := [d1, d2] }
  | _ => none }
def ScriptMatchesReferenceWrongFalsely : Prop := scriptMatchesReferenceRow.holds Tryz.pinned (OpenSpec.ofChange scriptMatchesReferenceWrong)

/-- 'armaturelaw36.ScriptRoundTrip': WHATEVER THE INPUT: true; the input reads as it did. -/
def scriptRoundTripSpec : ChangeSpec := { name := "scriptRoundTrip", fn := fun _ => fun
  | [d1, d2] => { results := [.lit (.bool true)], args := [d1, d2] }
  | _ => none }
def scriptRoundTripRow : OpenClaim := { program := "ytebbfckifhbkoaagreatdoor", sum := "7c0b8dee9e37da8dd763a9ebe40eba331fbf77d9f71ee7b860f59d3a676aaec1", func := "armature/armaturelaw36.ScriptRoundTrip", spec := "scriptRoundTrip", inPlace := ["internal/bytealg.CountString", "internal/bytealg.IndexByteString", "internal/bytealg.IndexString", "internal/abi.NoEscape", "internal/bytealg.MakeNoZero", "slices.overlaps[int]"], unfollowed := true, recurses := true, named := ["armature/script.rows", "unicode/utf8.first", "unicode/utf8.acceptRanges", "internal/bytealg.MaxLen", "strconv.ErrSyntax", "strconv.ErrRange", "internal/strconv.uint64pow10", "math/bits.deBruijn32tab", "math/bits.deBruijn64tab", "armature/lexer.symbols"], plainKeys := false, apart := false, laid := [("armature/script.rows", laid_armature_script_rows), ("unicode/utf8.first", laid_unicode_utf8_first), ("unicode/utf8.acceptRanges", laid_unicode_utf8_acceptRanges), ("strconv.ErrSyntax", laid_strconv_ErrSyntax), ("strconv.ErrRange", laid_strconv_ErrRange), ("internal/strconv.uint64pow10", laid_internal_strconv_uint64pow10), ("math/bits.deBruijn32tab", laid_math_bits_deBruijn32tab), ("math/bits.deBruijn64tab", laid_math_bits_deBruijn64tab), ("armature/lexer.symbols", laid_armature_lexer_symbols)] }
def ScriptRoundTripSaid : Prop := scriptRoundTripRow.holds Tryz.pinned (OpenSpec.ofChange scriptRoundTripSpec)

/-- ITS FALSE NEIGHBOUR: 'it returns false'. Refute it at one input. -/
def scriptRoundTripWrong : ChangeSpec := { name := "scriptRoundTrip", fn := fun _ => fun
  | [d1, d2] => { results := [.lit (.bool false)], args := [d1, d2] }
  | _ => none }
def ScriptRoundTripWrongFalsely : Prop := scriptRoundTripRow.holds Tryz.pinned (OpenSpec.ofChange scriptRoundTripWrong)

/-- 'armaturelaw36.ScriptConcatenation': WHATEVER THE INPUT: true; the input reads as it did. -/
def scriptConcatenationSpec : ChangeSpec := { name := "scriptConcatenation", fn := fun _ => fun
  | [d1, d2] => { results := [.lit (.bool true)], args := [d1, d2] }
  | _ => none }
def scriptConcatenationRow : OpenClaim := { program := "ytebbfckifhbkoaagreatdoor", sum := "7c0b8dee9e37da8dd763a9ebe40eba331fbf77d9f71ee7b860f59d3a676aaec1", func := "armature/armaturelaw36.ScriptConcatenation", spec := "scriptConcatenation", inPlace := ["internal/bytealg.CountString", "internal/bytealg.IndexByteString", "internal/bytealg.IndexString", "internal/abi.NoEscape", "internal/bytealg.MakeNoZero", "slices.overlaps[int]"], unfollowed := true, recurses := true, named := ["armature/script.rows", "unicode/utf8.first", "unicode/utf8.acceptRanges", "internal/bytealg.MaxLen", "strconv.ErrSyntax", "strconv.ErrRange", "internal/strconv.uint64pow10", "math/bits.deBruijn32tab", "math/bits.deBruijn64tab", "armature/lexer.symbols"], plainKeys := false, apart := false, laid := [("armature/script.rows", laid_armature_script_rows), ("unicode/utf8.first", laid_unicode_utf8_first), ("unicode/utf8.acceptRanges", laid_unicode_utf8_acceptRanges), ("strconv.ErrSyntax", laid_strconv_ErrSyntax), ("strconv.ErrRange", laid_strconv_ErrRange), ("internal/strconv.uint64pow10", laid_internal_strconv_uint64pow10), ("math/bits.deBruijn32tab", laid_math_bits_deBruijn32tab), ("math/bits.deBruijn64tab", laid_math_bits_deBruijn64tab), ("armature/lexer.symbols", laid_armature_lexer_symbols)] }
def ScriptConcatenationSaid : Prop := scriptConcatenationRow.holds Tryz.pinned (OpenSpec.ofChange scriptConcatenationSpec)

/-- ITS FALSE NEIGHBOUR: 'it returns false'. Refute it at one input. -/
def scriptConcatenationWrong : ChangeSpec := { name := "scriptConcatenation", fn := fun _ => fun
  | [d1, d2] => { results := [.lit (.bool false)], args := [d1, d2] }
  | _ => none }
def ScriptConcatenationWrongFalsely : Prop := scriptConcatenationRow.holds Tryz.pinned (OpenSpec.ofChange scriptConcatenationWrong)

/-- 'armaturelaw36.ScriptIgnored': WHATEVER THE INPUT: true; the input reads as it did. -/
def scriptIgnoredSpec : ChangeSpec := { name := "scriptIgnored", fn := fun _ => fun
  | [d1, d2, d3, d4] => { results := [.lit (.bool true)], args := [d1, d2, d3, d4] }
  | _ => none }
def scriptIgnoredRow : OpenClaim := { program := "ytebbfckifhbkoaagreatdoor", sum := "7c0b8dee9e37da8dd763a9ebe40eba331fbf77d9f71ee7b860f59d3a676aaec1", func := "armature/armaturelaw36.ScriptIgnored", spec := "scriptIgnored", inPlace := ["internal/bytealg.CountString", "internal/bytealg.IndexByteString", "internal/bytealg.IndexString", "internal/abi.NoEscape", "internal/bytealg.MakeNoZero", "slices.overlaps[int]"], unfollowed := true, recurses := true, named := ["armature/script.rows", "unicode/utf8.first", "unicode/utf8.acceptRanges", "internal/bytealg.MaxLen", "strconv.ErrSyntax", "strconv.ErrRange", "internal/strconv.uint64pow10", "math/bits.deBruijn32tab", "math/bits.deBruijn64tab", "armature/lexer.symbols"], plainKeys := false, apart := false, laid := [("armature/script.rows", laid_armature_script_rows), ("unicode/utf8.first", laid_unicode_utf8_first), ("unicode/utf8.acceptRanges", laid_unicode_utf8_acceptRanges), ("strconv.ErrSyntax", laid_strconv_ErrSyntax), ("strconv.ErrRange", laid_strconv_ErrRange), ("internal/strconv.uint64pow10", laid_internal_strconv_uint64pow10), ("math/bits.deBruijn32tab", laid_math_bits_deBruijn32tab), ("math/bits.deBruijn64tab", laid_math_bits_deBruijn64tab), ("armature/lexer.symbols", laid_armature_lexer_symbols)] }
def ScriptIgnoredSaid : Prop := scriptIgnoredRow.holds Tryz.pinned (OpenSpec.ofChange scriptIgnoredSpec)

/-- ITS FALSE NEIGHBOUR: 'it returns false'. Refute it at one input. -/
def scriptIgnoredWrong : ChangeSpec := { name := "scriptIgnored", fn := fun _ => fun
  | [d1, d2, d3, d4] => { results := [.lit (.bool false)], args := [d1, d2, d3, d4] }
  | _ => none }
def ScriptIgnoredWrongFalsely : Prop := scriptIgnoredRow.holds Tryz.pinned (OpenSpec.ofChange scriptIgnoredWrong)

/-- 'armaturelaw36.ScriptFirstError': WHATEVER THE INPUT: true; the input reads as it did. -/
def scriptFirstErrorSpec : ChangeSpec := { name := "scriptFirstError", fn := fun _ => fun
  | [d1, d2] => { results := [.lit (.bool true)], args := [d1, d2] }
  | _ => none }
def scriptFirstErrorRow : OpenClaim := { program := "ytebbfckifhbkoaagreatdoor", sum := "7c0b8dee9e37da8dd763a9ebe40eba331fbf77d9f71ee7b860f59d3a676aaec1", func := "armature/armaturelaw36.ScriptFirstError", spec := "scriptFirstError", inPlace := ["internal/bytealg.CountString", "internal/bytealg.IndexByteString", "internal/bytealg.IndexString", "internal/abi.NoEscape", "internal/bytealg.MakeNoZero", "slices.overlaps[int]"], unfollowed := true, recurses := true, named := ["armature/script.rows", "unicode/utf8.first", "unicode/utf8.acceptRanges", "internal/bytealg.MaxLen", "strconv.ErrSyntax", "strconv.ErrRange", "internal/strconv.uint64pow10", "math/bits.deBruijn32tab", "math/bits.deBruijn64tab", "armature/lexer.symbols"], plainKeys := false, apart := false, laid := [("armature/script.rows", laid_armature_script_rows), ("unicode/utf8.first", laid_unicode_utf8_first), ("unicode/utf8.acceptRanges", laid_unicode_utf8_acceptRanges), ("strconv.ErrSyntax", laid_strconv_ErrSyntax), ("strconv.ErrRange", laid_strconv_ErrRange), ("internal/strconv.uint64pow10", laid_internal_strconv_uint64pow10), ("math/bits.deBruijn32tab", laid_math_bits_deBruijn32tab), ("math/bits.deBruijn64tab", laid_math_bits_deBruijn64tab), ("armature/lexer.symbols", laid_armature_lexer_symbols)] }
def ScriptFirstErrorSaid : Prop := scriptFirstErrorRow.holds Tryz.pinned (OpenSpec.ofChange scriptFirstErrorSpec)

/-- ITS FALSE NEIGHBOUR: 'it returns false'. Refute it at one input. -/
def scriptFirstErrorWrong : ChangeSpec := { name := "scriptFirstError", fn := fun _ => fun
  | [d1, d2] => { results := [.lit (.bool false)], args := [d1, d2] }
  | _ => none }
def ScriptFirstErrorWrongFalsely : Prop := scriptFirstErrorRow.holds Tryz.pinned (OpenSpec.ofChange scriptFirstErrorWrong)

/-- 'armaturelaw36.ScriptLimits': WHATEVER THE INPUT: true; the input reads as it did. -/
def scriptLimitsSpec : ChangeSpec := { name := "scriptLimits", fn := fun _ => fun
  | [d1, d2] => { results := [.lit (.bool true)], args := [d1, d2] }
  | _ => none }
def scriptLimitsRow : OpenClaim := { program := "ytebbfckifhbkoaagreatdoor", sum := "7c0b8dee9e37da8dd763a9ebe40eba331fbf77d9f71ee7b860f59d3a676aaec1", func := "armature/armaturelaw36.ScriptLimits", spec := "scriptLimits", inPlace := ["internal/bytealg.CountString", "internal/bytealg.IndexByteString", "internal/bytealg.IndexString", "internal/abi.NoEscape", "internal/bytealg.MakeNoZero", "slices.overlaps[int]"], unfollowed := true, recurses := true, named := ["armature/script.rows", "unicode/utf8.first", "unicode/utf8.acceptRanges", "internal/bytealg.MaxLen", "strconv.ErrSyntax", "strconv.ErrRange", "internal/strconv.uint64pow10", "math/bits.deBruijn32tab", "math/bits.deBruijn64tab", "armature/lexer.symbols"], plainKeys := false, apart := false, laid := [("armature/script.rows", laid_armature_script_rows), ("unicode/utf8.first", laid_unicode_utf8_first), ("unicode/utf8.acceptRanges", laid_unicode_utf8_acceptRanges), ("strconv.ErrSyntax", laid_strconv_ErrSyntax), ("strconv.ErrRange", laid_strconv_ErrRange), ("internal/strconv.uint64pow10", laid_internal_strconv_uint64pow10), ("math/bits.deBruijn32tab", laid_math_bits_deBruijn32tab), ("math/bits.deBruijn64tab", laid_math_bits_deBruijn64tab), ("armature/lexer.symbols", laid_armature_lexer_symbols)] }
def ScriptLimitsSaid : Prop := scriptLimitsRow.holds Tryz.pinned (OpenSpec.ofChange scriptLimitsSpec)

/-- ITS FALSE NEIGHBOUR: 'it returns false'. Refute it at one input. -/
def scriptLimitsWrong : ChangeSpec := { name := "scriptLimits", fn := fun _ => fun
  | [d1, d2] => { results := [.lit (.bool false)], args := [d1, d2] }
  | _ => none }
def ScriptLimitsWrongFalsely : Prop := scriptLimitsRow.holds Tryz.pinned (OpenSpec.ofChange scriptLimitsWrong)

/- THE SECOND FORM. 'bulk': how many values and letters a reading holds, each counted each time it is reached (what is shared counts as often as it is met; a slice's spare places count too). A statement '..UptoSaid' is the law's where the arguments, and the package variables that the reading takes, are together of bulk at most 1048576: NARROWER than '..Said'. Prove '..Said' where nothing that the law and all that it calls make is longer than what came in: it says more and counts as full. Else prove '..UptoSaid'. A law counts once. -/
mutual
def uptoBulk {H : Type} : DataW H → Nat
  | .lit (.string bytes) => bytes.length + 1
  | .lit _ => 1
  | .nil => 1
  | .ptr d => uptoBulk d + 1
  | .slice elems spare => uptoBulkAll elems + uptoBulkAll spare + 1
  | .agg parts => uptoBulkAll parts + 1
  | .iface _ d => uptoBulk d + 1
  | .map entries => uptoBulkEntries entries + 1
  | .held _ => 1
def uptoBulkAll {H : Type} : List (DataW H) → Nat
  | [] => 0
  | d :: r => uptoBulk d + uptoBulkAll r
def uptoBulkEntries {H : Type} : List (Lit × DataW H) → Nat
  | [] => 0
  | x :: r => uptoBulkEntry x + uptoBulkEntries r
def uptoBulkEntry {H : Type} : Lit × DataW H → Nat
  | (.string bytes, d) => bytes.length + uptoBulk d + 1
  | (_, d) => uptoBulk d + 1
 end
def uptoSmall : (H : Type) → List (DataW H) → Bool := fun _ ds => decide (uptoBulkAll ds ≤ 1048576)
def OpenSpec.upto (s : _root_.Go.ChangeSpec) : _root_.Go.OpenSpec := { _root_.Go.OpenSpec.ofChange s with cond := some uptoSmall }

/-- 'armaturelaw36.ScriptMatchesReference', WHERE WHAT IT READS IS OF BULK AT MOST 1048576: true; the input reads as it did. -/
def scriptMatchesReferenceUptoRow : OpenClaim := { program := "ytebbfckifhbkoaagreatdoor", sum := "7c0b8dee9e37da8dd763a9ebe40eba331fbf77d9f71ee7b860f59d3a676aaec1", func := "armature/armaturelaw36.ScriptMatchesReference", spec := "scriptMatchesReference", inPlace := ["internal/bytealg.CountString", "internal/bytealg.IndexByteString", "internal/bytealg.IndexString", "internal/abi.NoEscape", "internal/bytealg.MakeNoZero", "slices.overlaps[int]"], unfollowed := true, recurses := true, named := ["armature/script.rows", "unicode/utf8.first", "unicode/utf8.acceptRanges", "internal/bytealg.MaxLen", "strconv.ErrSyntax", "strconv.ErrRange", "internal/strconv.uint64pow10", "math/bits.deBruijn32tab", "math/bits.deBruijn64tab", "armature/lexer.symbols"], plainKeys := false, apart := false, laid := [("armature/script.rows", laid_armature_script_rows), ("unicode/utf8.first", laid_unicode_utf8_first), ("unicode/utf8.acceptRanges", laid_unicode_utf8_acceptRanges), ("strconv.ErrSyntax", laid_strconv_ErrSyntax), ("strconv.ErrRange", laid_strconv_ErrRange), ("internal/strconv.uint64pow10", laid_internal_strconv_uint64pow10), ("math/bits.deBruijn32tab", laid_math_bits_deBruijn32tab), ("math/bits.deBruijn64tab", laid_math_bits_deBruijn64tab), ("armature/lexer.symbols", laid_armature_lexer_symbols)], narrowed := true }
def ScriptMatchesReferenceUptoSaid : Prop := scriptMatchesReferenceUptoRow.holds Tryz.pinned (OpenSpec.upto scriptMatchesReferenceSpec)

/-- 'armaturelaw36.ScriptRoundTrip', WHERE WHAT IT READS IS OF BULK AT MOST 1048576: true; the input reads as it did. -/
def scriptRoundTripUptoRow : OpenClaim := { program := "ytebbfckifhbkoaagreatdoor", sum := "7c0b8dee9e37da8dd763a9ebe40eba331fbf77d9f71ee7b860f59d3a676aaec1", func := "armature/armaturelaw36.ScriptRoundTrip", spec := "scriptRoundTrip", inPlace := ["internal/bytealg.CountString", "internal/bytealg.IndexByteString", "internal/bytealg.IndexString", "internal/abi.NoEscape", "internal/bytealg.MakeNoZero", "slices.overlaps[int]"], unfollowed := true, recurses := true, named := ["armature/script.rows", "unicode/utf8.first", "unicode/utf8.acceptRanges", "internal/bytealg.MaxLen", "strconv.ErrSyntax", "strconv.ErrRange", "internal/strconv.uint64pow10", "math/bits.deBruijn32tab", "math/bits.deBruijn64tab", "armature/lexer.symbols"], plainKeys := false, apart := false, laid := [("armature/script.rows", laid_armature_script_rows), ("unicode/utf8.first", laid_unicode_utf8_first), ("unicode/utf8.acceptRanges", laid_unicode_utf8_acceptRanges), ("strconv.ErrSyntax", laid_strconv_ErrSyntax), ("strconv.ErrRange", laid_strconv_ErrRange), ("internal/strconv.uint64pow10", laid_internal_strconv_uint64pow10), ("math/bits.deBruijn32tab", laid_math_bits_deBruijn32tab), ("math/bits.deBruijn64tab", laid_math_bits_deBruijn64tab), ("armature/lexer.symbols", laid_armature_lexer_symbols)], narrowed := true }
def ScriptRoundTripUptoSaid : Prop := scriptRoundTripUptoRow.holds Tryz.pinned (OpenSpec.upto scriptRoundTripSpec)

/-- 'armaturelaw36.ScriptConcatenation', WHERE WHAT IT READS IS OF BULK AT MOST 1048576: true; the input reads as it did. -/
def scriptConcatenationUptoRow : OpenClaim := { program := "ytebbfckifhbkoaagreatdoor", sum := "7c0b8dee9e37da8dd763a9ebe40eba331fbf77d9f71ee7b860f59d3a676aaec1", func := "armature/armaturelaw36.ScriptConcatenation", spec := "scriptConcatenation", inPlace := ["internal/bytealg.CountString", "internal/bytealg.IndexByteString", "internal/bytealg.IndexString", "internal/abi.NoEscape", "internal/bytealg.MakeNoZero", "slices.overlaps[int]"], unfollowed := true, recurses := true, named := ["armature/script.rows", "unicode/utf8.first", "unicode/utf8.acceptRanges", "internal/bytealg.MaxLen", "strconv.ErrSyntax", "strconv.ErrRange", "internal/strconv.uint64pow10", "math/bits.deBruijn32tab", "math/bits.deBruijn64tab", "armature/lexer.symbols"], plainKeys := false, apart := false, laid := [("armature/script.rows", laid_armature_script_rows), ("unicode/utf8.first", laid_unicode_utf8_first), ("unicode/utf8.acceptRanges", laid_unicode_utf8_acceptRanges), ("strconv.ErrSyntax", laid_strconv_ErrSyntax), ("strconv.ErrRange", laid_strconv_ErrRange), ("internal/strconv.uint64pow10", laid_internal_strconv_uint64pow10), ("math/bits.deBruijn32tab", laid_math_bits_deBruijn32tab), ("math/bits.deBruijn64tab", laid_math_bits_deBruijn64tab), ("armature/lexer.symbols", laid_armature_lexer_symbols)], narrowed := true }
def ScriptConcatenationUptoSaid : Prop := scriptConcatenationUptoRow.holds Tryz.pinned (OpenSpec.upto scriptConcatenationSpec)

/-- 'armaturelaw36.ScriptIgnored', WHERE WHAT IT READS IS OF BULK AT MOST 1048576: true; the input reads as it did. -/
def scriptIgnoredUptoRow : OpenClaim := { program := "ytebbfckifhbkoaagreatdoor", sum := "7c0b8dee9e37da8dd763a9ebe40eba331fbf77d9f71ee7b860f59d3a676aaec1", func := "armature/armaturelaw36.ScriptIgnored", spec := "scriptIgnored", inPlace := ["internal/bytealg.CountString", "internal/bytealg.IndexByteString", "internal/bytealg.IndexString", "internal/abi.NoEscape", "internal/bytealg.MakeNoZero", "slices.overlaps[int]"], unfollowed := true, recurses := true, named := ["armature/script.rows", "unicode/utf8.first", "unicode/utf8.acceptRanges", "internal/bytealg.MaxLen", "strconv.ErrSyntax", "strconv.ErrRange", "internal/strconv.uint64pow10", "math/bits.deBruijn32tab", "math/bits.deBruijn64tab", "armature/lexer.symbols"], plainKeys := false, apart := false, laid := [("armature/script.rows", laid_armature_script_rows), ("unicode/utf8.first", laid_unicode_utf8_first), ("unicode/utf8.acceptRanges", laid_unicode_utf8_acceptRanges), ("strconv.ErrSyntax", laid_strconv_ErrSyntax), ("strconv.ErrRange", laid_strconv_ErrRange), ("internal/strconv.uint64pow10", laid_internal_strconv_uint64pow10), ("math/bits.deBruijn32tab", laid_math_bits_deBruijn32tab), ("math/bits.deBruijn64tab", laid_math_bits_deBruijn64tab), ("armature/lexer.symbols", laid_armature_lexer_symbols)], narrowed := true }
def ScriptIgnoredUptoSaid : Prop := scriptIgnoredUptoRow.holds Tryz.pinned (OpenSpec.upto scriptIgnoredSpec)

/-- 'armaturelaw36.ScriptFirstError', WHERE WHAT IT READS IS OF BULK AT MOST 1048576: true; the input reads as it did. -/
def scriptFirstErrorUptoRow : OpenClaim := { program := "ytebbfckifhbkoaagreatdoor", sum := "7c0b8dee9e37da8dd763a9ebe40eba331fbf77d9f71ee7b860f59d3a676aaec1", func := "armature/armaturelaw36.ScriptFirstError", spec := "scriptFirstError", inPlace := ["internal/bytealg.CountString", "internal/bytealg.IndexByteString", "internal/bytealg.IndexString", "internal/abi.NoEscape", "internal/bytealg.MakeNoZero", "slices.overlaps[int]"], unfollowed := true, recurses := true, named := ["armature/script.rows", "unicode/utf8.first", "unicode/utf8.acceptRanges", "internal/bytealg.MaxLen", "strconv.ErrSyntax", "strconv.ErrRange", "internal/strconv.uint64pow10", "math/bits.deBruijn32tab", "math/bits.deBruijn64tab", "armature/lexer.symbols"], plainKeys := false, apart := false, laid := [("armature/script.rows", laid_armature_script_rows), ("unicode/utf8.first", laid_unicode_utf8_first), ("unicode/utf8.acceptRanges", laid_unicode_utf8_acceptRanges), ("strconv.ErrSyntax", laid_strconv_ErrSyntax), ("strconv.ErrRange", laid_strconv_ErrRange), ("internal/strconv.uint64pow10", laid_internal_strconv_uint64pow10), ("math/bits.deBruijn32tab", laid_math_bits_deBruijn32tab), ("math/bits.deBruijn64tab", laid_math_bits_deBruijn64tab), ("armature/lexer.symbols", laid_armature_lexer_symbols)], narrowed := true }
def ScriptFirstErrorUptoSaid : Prop := scriptFirstErrorUptoRow.holds Tryz.pinned (OpenSpec.upto scriptFirstErrorSpec)

/-- 'armaturelaw36.ScriptLimits', WHERE WHAT IT READS IS OF BULK AT MOST 1048576: true; the input reads as it did. -/
def scriptLimitsUptoRow : OpenClaim := { program := "ytebbfckifhbkoaagreatdoor", sum := "7c0b8dee9e37da8dd763a9ebe40eba331fbf77d9f71ee7b860f59d3a676aaec1", func := "armature/armaturelaw36.ScriptLimits", spec := "scriptLimits", inPlace := ["internal/bytealg.CountString", "internal/bytealg.IndexByteString", "internal/bytealg.IndexString", "internal/abi.NoEscape", "internal/bytealg.MakeNoZero", "slices.overlaps[int]"], unfollowed := true, recurses := true, named := ["armature/script.rows", "unicode/utf8.first", "unicode/utf8.acceptRanges", "internal/bytealg.MaxLen", "strconv.ErrSyntax", "strconv.ErrRange", "internal/strconv.uint64pow10", "math/bits.deBruijn32tab", "math/bits.deBruijn64tab", "armature/lexer.symbols"], plainKeys := false, apart := false, laid := [("armature/script.rows", laid_armature_script_rows), ("unicode/utf8.first", laid_unicode_utf8_first), ("unicode/utf8.acceptRanges", laid_unicode_utf8_acceptRanges), ("strconv.ErrSyntax", laid_strconv_ErrSyntax), ("strconv.ErrRange", laid_strconv_ErrRange), ("internal/strconv.uint64pow10", laid_internal_strconv_uint64pow10), ("math/bits.deBruijn32tab", laid_math_bits_deBruijn32tab), ("math/bits.deBruijn64tab", laid_math_bits_deBruijn64tab), ("armature/lexer.symbols", laid_armature_lexer_symbols)], narrowed := true }
def ScriptLimitsUptoSaid : Prop := scriptLimitsUptoRow.holds Tryz.pinned (OpenSpec.upto scriptLimitsSpec)

end Rows
end Go.Proofs.YtebbfckifhbkoaaGreatDoor
