/-
  PrinterInjective: for every input the law returns true, and the input reads as it did. The listed variables are tied to the program's text.
-/
import Derived.Test.YtalgjkpkkdljaaaDoorG4
import Derived.Test.YtalgjkpkkdljaaaDoorG3
import Derived.Test.YtalgjkpkkdljaaaDoorG5
import Derived.Test.YtalgjkpkkdljaaaDoorTie
import Derived.Test.YtalgjkpkkdljaaaDoorCards
import Derived.SevenTiedAt
import Derived.Lay
import Derived.Carry
namespace Go.Proofs.YtalgjkpkkdljaaaDoor
open Go.Vs Go.ChangeShapes Go.WideShapes Go.ChangeAt Go.WideMaps Go.WideElems Go.RowKit
set_option maxRecDepth 100000 in
theorem law4_lifted (os : Os) (started : os.Started) (H : Type) (enc : TypeId × Value → H) :
    ReturnsInHanded {} Tryd.checked os 4 .any (fun w args => (Rows.printerInjectiveSpec.pre enc Tryd.prog Tryd.f4 [] false w args ∧ laidMetH Tryd.prog laidL w) ∧ sizedMet enc Tryd.prog Tryd.f4 (OpenSpec.ofChange Rows.printerInjectiveSpec) false w args)
     (Rows.printerInjectiveSpec.post enc Tryd.prog Tryd.f4 false true false false) := by
 refine returnsInHanded_and_shaped (C := Tryd.checked) (X := fun w _ => laidMetH Tryd.prog laidL w) (fun _ _ _ hh h => h.of_heap hh) own started (by kernel_rfl) Tryd.func4
  (ChangeSpec.witness_shaped (enc := enc) (C := Tryd.checked) (os := os) (X := fun w _ => laidMetH Tryd.prog laidL w) false (World.laidAll Tryd.prog os laidL) #[.agg #[.int .i64 0, .string ⟨#[]⟩, .int .i64 0, .slice none 0 0, .int .i64 0], .agg #[.int .i64 0, .string ⟨#[]⟩, .int .i64 0, .slice none 0 0, .int .i64 0]] 8 (World.laidAll_os _ _ _) (World.shaped_of_ZipB (by kernel_rfl) (by kernel_rfl)) (by kernel_rfl) (by kernel_rfl) (by kernel_rfl) (door_met os _)) ?_
 intro W base args ds gs before hval0 hW hL hS
 have hval : ∀ (j : Nat) t v, Tryd.f4.params[j]? = some t → args[j]? = some v → Value.okWide Tryd.prog W .any base t v := hval0
 have hW' := hW
 obtain ⟨p, q, hA0, hV, rfl, hfz, hnd⟩ := hW
 have hA : DataW.TrodAll enc Tryd.prog W 0 (fun _ => true) true Tryd.f4.params.toList args.toList ds p := hA0
 rw [Tryd.params4] at hA hval
 obtain ⟨v0, v1, d0, d1, p0, p1, rfl, rfl, rfl, h0, h1⟩ := trodAll_two hA
 obtain ⟨rfl, rfl⟩ := trodVars_none hV
 obtain ⟨o0, r0⟩ := rep_node (hval 0 24 v0 rfl rfl) h0
 obtain ⟨o1, r1⟩ := rep_node (hval 1 24 v1 rfl rfl) h1
 obtain ⟨H', hc⟩ := law4 o0 o1
 refine (law_calls (pg_ok (wok hL)) hc ⟨fun g cs h => by cases h⟩ (repL_cons r0 (repL_cons r1 repL_nil))).mono ?_
 rintro e W' ⟨rfl, B⟩
 refine ⟨.bool true, rfl, ?_⟩
 refine post_law (tb := 4) laidOut ?_ rfl hW' (by kernel_rfl) Tryd.underlying4 rfl B
 intro t ht
 rw [Tryd.params4] at ht
 have ht' : t = 24 ∨ t = 24 := by simpa using ht
 rcases ht' with rfl | rfl
 ·exact ⟨by kernel_rfl, of_decide_eq_true (by kernel_rfl)⟩
 ·exact ⟨by kernel_rfl, of_decide_eq_true (by kernel_rfl)⟩
theorem law4_holds : Rows.PrinterInjectiveSaid :=
 OpenClaim.holds_of_wide 4 Tryd.f4 rfl rfl rfl rfl rfl rfl rfl ⟨rfl, rfl, rfl, rfl, rfl⟩ rfl rfl rfl rfl rfl (by kernel_rfl) Tryd.func4 (by kernel_rfl)
  (of_decide_eq_true (by kernel_rfl)) (by unfold Func.isWrapper; first | (rw [if_pos (by decide +kernel)]; kernel_rfl) | (rw [if_neg (by decide +kernel)]; exact ⟨rfl, rfl⟩))
  (fun os started H enc _ => law4_lifted os started H enc)
theorem law4_card : Rows.PrinterInjectiveCardSaid :=
 Claim7.holds_tied_plain_at .later [] [.data, .data, .data] true (true, "56203fe4d26558a6786c550ac529c3e04ced4b27f962bac7aa0d8677f9181b93") false
  law4_holds (fun _ h => by cases h) (by kernel_rfl) (fun _ h => by cases h) printerInjective_row_tie rfl ⟨rfl, rfl⟩ (by kernel_rfl) rfl
  (fun f fn hf hfn => by
   obtain rfl : f = 4 := Option.some.inj ((show Tryd.prog.funcNamed "armature/armaturelaw03.PrinterInjective" = some 4 by kernel_rfl).symm.trans hf) |>.symm
   obtain rfl : fn = Tryd.f4 := (Option.some.inj (Tryd.func4.symm.trans hfn)).symm
   exact ⟨by kernel_rfl, fun j t ht => by
    rw [Tryd.params4] at ht
    match j with
     | 0 => 
      have h3 : t = 24 := by simpa using ht.symm
      subst h3
      exact (show Tryd.prog.wantsStandIn 24 = false by kernel_rfl)
     | 1 => 
      have h3 : t = 24 := by simpa using ht.symm
      subst h3
      exact (show Tryd.prog.wantsStandIn 24 = false by kernel_rfl)
     | j + 2 => simp at ht⟩)
  (by kernel_rfl)
#print axioms law4_card
end Go.Proofs.YtalgjkpkkdljaaaDoor
