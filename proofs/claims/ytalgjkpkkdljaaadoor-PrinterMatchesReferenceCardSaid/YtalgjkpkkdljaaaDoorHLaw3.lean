/-
  PrinterMatchesReference: for every input the law returns true, and the input reads as it did. The listed variables are tied to the program's text.
-/
import Derived.Test.YtalgjkpkkdljaaaDoorG4
import Derived.Test.YtalgjkpkkdljaaaDoorG3
import Derived.Test.YtalgjkpkkdljaaaDoorG6
import Derived.Test.YtalgjkpkkdljaaaDoorTie
import Derived.Test.YtalgjkpkkdljaaaDoorCards
import Derived.SevenTiedAt
import Derived.Lay
import Derived.Carry
namespace Go.Proofs.YtalgjkpkkdljaaaDoor
open Go.Vs Go.ChangeShapes Go.WideShapes Go.ChangeAt Go.WideMaps Go.WideElems Go.RowKit
set_option maxRecDepth 100000 in
theorem law3_lifted (os : Os) (started : os.Started) (H : Type) (enc : TypeId × Value → H) :
    ReturnsInHanded {} Tryd.checked os 3 .any (fun w args => (Rows.printerMatchesReferenceSpec.pre enc Tryd.prog Tryd.f3 [] false w args ∧ laidMetH Tryd.prog laidL w) ∧ sizedMet enc Tryd.prog Tryd.f3 (OpenSpec.ofChange Rows.printerMatchesReferenceSpec) false w args)
     (Rows.printerMatchesReferenceSpec.post enc Tryd.prog Tryd.f3 false true false false) := by
 refine returnsInHanded_and_shaped (C := Tryd.checked) (X := fun w _ => laidMetH Tryd.prog laidL w) (fun _ _ _ hh h => h.of_heap hh) own started (by kernel_rfl) Tryd.func3
  (ChangeSpec.witness_shaped (enc := enc) (C := Tryd.checked) (os := os) (X := fun w _ => laidMetH Tryd.prog laidL w) false (World.laidAll Tryd.prog os laidL) #[.agg #[.int .i64 0, .string ⟨#[]⟩, .int .i64 0, .slice none 0 0, .int .i64 0], .agg #[.int .i64 0, .string ⟨#[]⟩, .int .i64 0, .slice none 0 0, .int .i64 0], .agg #[.slice none 0 0, .slice none 0 0, .slice none 0 0, .slice none 0 0], .agg #[.slice none 0 0, .slice none 0 0, .slice none 0 0, .slice none 0 0]] 8 (World.laidAll_os _ _ _) (World.shaped_of_ZipB (by kernel_rfl) (by kernel_rfl)) (by kernel_rfl) (by kernel_rfl) (by kernel_rfl) (door_met os _)) ?_
 intro W base args ds gs before hval0 hW hL hS
 have hval : ∀ (j : Nat) t v, Tryd.f3.params[j]? = some t → args[j]? = some v → Value.okWide Tryd.prog W .any base t v := hval0
 have hW' := hW
 obtain ⟨p, q, hA0, hV, rfl, hfz, hnd⟩ := hW
 have hA : DataW.TrodAll enc Tryd.prog W 0 (fun _ => true) true Tryd.f3.params.toList args.toList ds p := hA0
 rw [Tryd.params3] at hA hval
 obtain ⟨v0, v1, v2, v3, d0, d1, d2, d3, p0, p1, p2, p3, rfl, rfl, rfl, h0, h1, h2, h3⟩ := trodAll_four hA
 obtain ⟨rfl, rfl⟩ := trodVars_none hV
 obtain ⟨o0, r0⟩ := rep_node (hval 0 24 v0 rfl rfl) h0
 obtain ⟨o1, r1⟩ := rep_node (hval 1 24 v1 rfl rfl) h1
 obtain ⟨o2, r2⟩ := rep_spec (hval 2 30 v2 rfl rfl) h2
 obtain ⟨o3, r3⟩ := rep_spec (hval 3 30 v3 rfl rfl) h3
 obtain ⟨H', hc⟩ := law3 o0 o1 o2 o3
 refine (law_calls (pg_ok (wok hL)) hc ⟨fun g cs h => by cases h⟩ (repL_cons r0 (repL_cons r1 (repL_cons r2 (repL_cons r3 repL_nil))))).mono ?_
 rintro e W' ⟨rfl, B⟩
 refine ⟨.bool true, rfl, ?_⟩
 refine post_law (tb := 4) laidOut ?_ rfl hW' (by kernel_rfl) Tryd.underlying4 rfl B
 intro t ht
 rw [Tryd.params3] at ht
 have ht' : t = 24 ∨ t = 24 ∨ t = 30 ∨ t = 30 := by simpa using ht
 rcases ht' with rfl | rfl | rfl | rfl
 ·exact ⟨by kernel_rfl, of_decide_eq_true (by kernel_rfl)⟩
 ·exact ⟨by kernel_rfl, of_decide_eq_true (by kernel_rfl)⟩
 ·exact ⟨by kernel_rfl, of_decide_eq_true (by kernel_rfl)⟩
 ·exact ⟨by kernel_rfl, of_decide_eq_true (by kernel_rfl)⟩
theorem law3_holds : Rows.PrinterMatchesReferenceSaid :=
 OpenClaim.holds_of_wide 3 Tryd.f3 rfl rfl rfl rfl rfl rfl rfl ⟨rfl, rfl, rfl, rfl, rfl⟩ rfl rfl rfl rfl rfl (by kernel_rfl) Tryd.func3 (by kernel_rfl)
  (of_decide_eq_true (by kernel_rfl)) (by unfold Func.isWrapper; first | (rw [if_pos (by decide +kernel)]; kernel_rfl) | (rw [if_neg (by decide +kernel)]; exact ⟨rfl, rfl⟩))
  (fun os started H enc _ => law3_lifted os started H enc)
theorem law3_card : Rows.PrinterMatchesReferenceCardSaid :=
 Claim7.holds_tied_plain_at .later [] [.data, .data, .data] true (true, "56203fe4d26558a6786c550ac529c3e04ced4b27f962bac7aa0d8677f9181b93") false
  law3_holds (fun _ h => by cases h) (by kernel_rfl) (fun _ h => by cases h) printerMatchesReference_row_tie rfl ⟨rfl, rfl⟩ (by kernel_rfl) rfl
  (fun f fn hf hfn => by
   obtain rfl : f = 3 := Option.some.inj ((show Tryd.prog.funcNamed "armature/armaturelaw03.PrinterMatchesReference" = some 3 by kernel_rfl).symm.trans hf) |>.symm
   obtain rfl : fn = Tryd.f3 := (Option.some.inj (Tryd.func3.symm.trans hfn)).symm
   exact ⟨by kernel_rfl, fun j t ht => by
    rw [Tryd.params3] at ht
    match j with
     | 0 => 
      have h3 : t = 24 := by simpa using ht.symm
      subst h3
      exact (show Tryd.prog.wantsStandIn 24 = false by kernel_rfl)
     | 1 => 
      have h3 : t = 24 := by simpa using ht.symm
      subst h3
      exact (show Tryd.prog.wantsStandIn 24 = false by kernel_rfl)
     | 2 => 
      have h3 : t = 30 := by simpa using ht.symm
      subst h3
      exact (show Tryd.prog.wantsStandIn 30 = false by kernel_rfl)
     | 3 => 
      have h3 : t = 30 := by simpa using ht.symm
      subst h3
      exact (show Tryd.prog.wantsStandIn 30 = false by kernel_rfl)
     | j + 4 => simp at ht⟩)
  (by kernel_rfl)
#print axioms law3_card
end Go.Proofs.YtalgjkpkkdljaaaDoor
