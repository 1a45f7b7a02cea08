/-
  The ties of the rows to the program's text: the closed facts one by one.
-/
import Derived.Test.YtebbfckifhbkoaaGreatDoorRows
import Derived.LaidByTextLater
import Derived.SevenTiedAt

namespace Go.Proofs.YtebbfckifhbkoaaGreatDoor
open Go
abbrev laidT : List (String × DataW Unit) := [("armature/script.rows", Rows.laid_armature_script_rows), ("unicode/utf8.acceptRanges", Rows.laid_unicode_utf8_acceptRanges), ("strconv.ErrSyntax", Rows.laid_strconv_ErrSyntax), ("strconv.ErrRange", Rows.laid_strconv_ErrRange), ("internal/strconv.uint64pow10", Rows.laid_internal_strconv_uint64pow10), ("math/bits.deBruijn32tab", Rows.laid_math_bits_deBruijn32tab), ("math/bits.deBruijn64tab", Rows.laid_math_bits_deBruijn64tab), ("armature/lexer.symbols", Rows.laid_armature_lexer_symbols)]
abbrev kindT : List LaidKind := [.data, .data, .sentinel, .sentinel, .data, .data, .data, .data]
theorem tieW : Tryz.prog.worded (varsWordLater true) = true := by kernel_rfl
theorem tieN : Tryz.prog.worded (varsWordLater !true) = false := by kernel_rfl
theorem tieR : Tryz.prog.worded rootWordLater = true := by kernel_rfl
theorem tieK : laidT.map (fun x => Tryz.prog.kindOfLater x.1) = kindT.map some := by kernel_rfl
theorem tieG : (Tryz.prog.funcNamed "gosem.cut.vars").isSome = true := by kernel_rfl
theorem tieV : varsNamedLaterB Tryz.prog (varsId Tryz.prog) laidT = true := by kernel_rfl
theorem tieD : ∀ os tape, varsDone Tryz.prog 400 (varsId Tryz.prog) os tape = true := fun _ _ => by kernel_rfl
theorem tieL : ∀ os tape, (DataW.laidRun Tryz.prog (varsWorld Tryz.prog 400 (varsId Tryz.prog) os tape).memory 8 (laidT.map (·.1))).map (·.1) = some laidT := fun _ _ => by kernel_rfl
theorem tieM : ∀ os tape, (DataW.laidRun Tryz.prog (varsWorld Tryz.prog 400 (varsId Tryz.prog) os tape).memory 8 (laidT.map (·.1))).map (fun x => decide x.2.Nodup && laidRowsB Tryz.prog (varsWorld Tryz.prog 400 (varsId Tryz.prog) os tape).memory x.2) = some true := fun _ _ => by kernel_rfl
theorem tieH : (laidT.all fun x => x.2.handleName?.isNone) = true := by kernel_rfl
theorem tieA : Tryz.prog.laidByTextLater laidT kindT true := Program.laidByTextLater_by_run 400 8 tieW tieN tieR tieK tieG tieV tieD tieL tieM tieH
theorem tieP : Tryz.pinned.checked.prog.pinnedFits "unicode/utf8.first" = true := by kernel_rfl
theorem tieO : Tryz.pinned.checked.prog.headLifts.contains "ownunsafe" = false := by kernel_rfl
theorem tieF : Tryz.pinned.checked.prog.listedFits [("armature/script.rows", Rows.laid_armature_script_rows), ("unicode/utf8.first", Rows.laid_unicode_utf8_first), ("unicode/utf8.acceptRanges", Rows.laid_unicode_utf8_acceptRanges), ("strconv.ErrSyntax", Rows.laid_strconv_ErrSyntax), ("strconv.ErrRange", Rows.laid_strconv_ErrRange), ("internal/strconv.uint64pow10", Rows.laid_internal_strconv_uint64pow10), ("math/bits.deBruijn32tab", Rows.laid_math_bits_deBruijn32tab), ("math/bits.deBruijn64tab", Rows.laid_math_bits_deBruijn64tab), ("armature/lexer.symbols", Rows.laid_armature_lexer_symbols)] = true := by
  unfold Program.listedFits
  rw [tieO]
  kernel_rfl
theorem scriptMatchesReference_rtie : Rows.scriptMatchesReferenceRow.laidByTextAt .later Tryz.pinned [.data, .pinned, .data, .sentinel, .sentinel, .data, .data, .data, .data] true :=
  OpenClaim.laidByTextAt_pinned rfl rfl tieA rfl rfl rfl rfl (fun y hy _e => by
    simp only [Rows.scriptMatchesReferenceRow, List.zip_cons_cons, List.zip_nil_right, List.mem_cons, List.mem_nil_iff, or_false] at hy
    rcases hy with rfl | rfl | rfl | rfl | rfl | rfl | rfl | rfl | rfl
    · cases _e
    · exact ⟨tieP, by kernel_rfl⟩
    · cases _e
    · cases _e
    · cases _e
    · cases _e
    · cases _e
    · cases _e
    · cases _e) tieF
theorem scriptRoundTrip_rtie : Rows.scriptRoundTripRow.laidByTextAt .later Tryz.pinned [.data, .pinned, .data, .sentinel, .sentinel, .data, .data, .data, .data] true :=
  OpenClaim.laidByTextAt_pinned rfl rfl tieA rfl rfl rfl rfl (fun y hy _e => by
    simp only [Rows.scriptRoundTripRow, List.zip_cons_cons, List.zip_nil_right, List.mem_cons, List.mem_nil_iff, or_false] at hy
    rcases hy with rfl | rfl | rfl | rfl | rfl | rfl | rfl | rfl | rfl
    · cases _e
    · exact ⟨tieP, by kernel_rfl⟩
    · cases _e
    · cases _e
    · cases _e
    · cases _e
    · cases _e
    · cases _e
    · cases _e) tieF
theorem scriptConcatenation_rtie : Rows.scriptConcatenationRow.laidByTextAt .later Tryz.pinned [.data, .pinned, .data, .sentinel, .sentinel, .data, .data, .data, .data] true :=
  OpenClaim.laidByTextAt_pinned rfl rfl tieA rfl rfl rfl rfl (fun y hy _e => by
    simp only [Rows.scriptConcatenationRow, List.zip_cons_cons, List.zip_nil_right, List.mem_cons, List.mem_nil_iff, or_false] at hy
    rcases hy with rfl | rfl | rfl | rfl | rfl | rfl | rfl | rfl | rfl
    · cases _e
    · exact ⟨tieP, by kernel_rfl⟩
    · cases _e
    · cases _e
    · cases _e
    · cases _e
    · cases _e
    · cases _e
    · cases _e) tieF
theorem scriptIgnored_rtie : Rows.scriptIgnoredRow.laidByTextAt .later Tryz.pinned [.data, .pinned, .data, .sentinel, .sentinel, .data, .data, .data, .data] true :=
  OpenClaim.laidByTextAt_pinned rfl rfl tieA rfl rfl rfl rfl (fun y hy _e => by
    simp only [Rows.scriptIgnoredRow, List.zip_cons_cons, List.zip_nil_right, List.mem_cons, List.mem_nil_iff, or_false] at hy
    rcases hy with rfl | rfl | rfl | rfl | rfl | rfl | rfl | rfl | rfl
    · cases _e
    · exact ⟨tieP, by kernel_rfl⟩
    · cases _e
    · cases _e
    · cases _e
    · cases _e
    · cases _e
    · cases _e
    · cases _e) tieF
theorem scriptFirstError_rtie : Rows.scriptFirstErrorRow.laidByTextAt .later Tryz.pinned [.data, .pinned, .data, .sentinel, .sentinel, .data, .data, .data, .data] true :=
  OpenClaim.laidByTextAt_pinned rfl rfl tieA rfl rfl rfl rfl (fun y hy _e => by
    simp only [Rows.scriptFirstErrorRow, List.zip_cons_cons, List.zip_nil_right, List.mem_cons, List.mem_nil_iff, or_false] at hy
    rcases hy with rfl | rfl | rfl | rfl | rfl | rfl | rfl | rfl | rfl
    · cases _e
    · exact ⟨tieP, by kernel_rfl⟩
    · cases _e
    · cases _e
    · cases _e
    · cases _e
    · cases _e
    · cases _e
    · cases _e) tieF
theorem scriptLimits_rtie : Rows.scriptLimitsRow.laidByTextAt .later Tryz.pinned [.data, .pinned, .data, .sentinel, .sentinel, .data, .data, .data, .data] true :=
  OpenClaim.laidByTextAt_pinned rfl rfl tieA rfl rfl rfl rfl (fun y hy _e => by
    simp only [Rows.scriptLimitsRow, List.zip_cons_cons, List.zip_nil_right, List.mem_cons, List.mem_nil_iff, or_false] at hy
    rcases hy with rfl | rfl | rfl | rfl | rfl | rfl | rfl | rfl | rfl
    · cases _e
    · exact ⟨tieP, by kernel_rfl⟩
    · cases _e
    · cases _e
    · cases _e
    · cases _e
    · cases _e
    · cases _e
    · cases _e) tieF

end Go.Proofs.YtebbfckifhbkoaaGreatDoor
