/-
  ProofDecodesOnlyTexts: for every input the law returns true, and the input reads as it did. The listed variables are tied to the program's text.
-/
import Derived.Test.YtneleliomipddaaDoorG4
import Derived.Test.YtneleliomipddaaDoorTie
import Derived.Test.YtneleliomipddaaDoorCards
import Derived.SevenTiedAt
import Derived.Lay
import Derived.Carry
namespace Go.Proofs.YtneleliomipddaaDoor
open Go.Vs Go.ChangeShapes Go.WideShapes Go.ChangeAt Go.WideMaps Go.WideElems Go.RowKit

set_option maxRecDepth 100000 in
theorem law4_lifted (os : Os) (started : os.Started) (H : Type) (enc : TypeId × Value → H) :
    ReturnsInHanded {} Tryd.checked os 4 .any (fun w args => (Rows.proofDecodesOnlyTextsSpec.pre enc Tryd.prog Tryd.f4 [] false w args ∧ laidMetH Tryd.prog laidL w) ∧ sizedMet enc Tryd.prog Tryd.f4 (OpenSpec.ofChange Rows.proofDecodesOnlyTextsSpec) false w args)
      (Rows.proofDecodesOnlyTextsSpec.post enc Tryd.prog Tryd.f4 false true false false) := by
  refine returnsInHanded_and_shaped (C := Tryd.checked) (X := fun w _ => laidMetH Tryd.prog laidL w) (fun _ _ _ hh h => h.of_heap hh) own started (by kernel_rfl) Tryd.func4
    (ChangeSpec.witness_shaped (enc := enc) (C := Tryd.checked) (os := os) (X := fun w _ => laidMetH Tryd.prog laidL w) false (World.laidAll Tryd.prog os laidL) #[.string ⟨#[]⟩] 8 (World.laidAll_os _ _ _) (World.shaped_of_ZipB (by kernel_rfl) (by kernel_rfl)) (by kernel_rfl) (by kernel_rfl) (by kernel_rfl) (door_met os _)) ?_
  intro W base args ds gs before hval0 hW hL hS
  have hval : ∀ (j : Nat) t v, Tryd.f4.params[j]? = some t → args[j]? = some v → Value.okWide Tryd.prog W .any base t v := hval0
  have hW' := hW
  obtain ⟨p, q, hA0, hV, rfl, hfz, hnd⟩ := hW
  have hA : DataW.TrodAll enc Tryd.prog W 0 (fun _ => true) true Tryd.f4.params.toList args.toList ds p := hA0
  rw [Tryd.params4] at hA hval
  obtain ⟨v0, d0, rfl, rfl, h0⟩ := trodAll_one hA
  obtain ⟨rfl, rfl⟩ := trodVars_none hV
  obtain ⟨s0, rfl, rfl, _, w0⟩ := Go.ChangeMaps.open_string Tryd.underlying9 (hval 0 9 v0 rfl rfl) h0
  obtain ⟨H', hc⟩ := law4 s0.data.toList
  refine (law_calls (pg_ok (wok hL hS)) hc ⟨fun g cs h => by cases h⟩ (repL_cons (rep_string W s0) repL_nil)).mono ?_
  rintro e W' ⟨rfl, B⟩
  refine ⟨.bool true, rfl, ?_⟩
  refine post_law (tb := 4) laidOut ?_ rfl hW' (by kernel_rfl) Tryd.underlying4 rfl B
  intro t ht
  rw [Tryd.params4] at ht
  have ht' : t = 9 := by simpa using ht
  subst ht'
  exact ⟨by kernel_rfl, of_decide_eq_true (by kernel_rfl)⟩

theorem law4_holds : Rows.ProofDecodesOnlyTextsSaid :=
  OpenClaim.holds_of_wide 4 Tryd.f4 rfl rfl rfl rfl rfl rfl rfl ⟨rfl, rfl, rfl, rfl, rfl⟩ rfl rfl rfl rfl rfl (by kernel_rfl) Tryd.func4 (by kernel_rfl)
    (of_decide_eq_true (by kernel_rfl)) (by unfold Func.isWrapper; first | (rw [if_pos (by decide +kernel)]; kernel_rfl) | (rw [if_neg (by decide +kernel)]; exact ⟨rfl, rfl⟩))
    (fun os started H enc _ => law4_lifted os started H enc)

theorem law4_card : Rows.ProofDecodesOnlyTextsCardSaid :=
  Claim7.holds_tied_plain_at .later [] [.data, .data, .data, .data, .sentinel, .sentinel, .pinned] true (true, "acfd1e87da08a19e971d612d7ae770467c727232302ac133e2c847066f276185") true
    law4_holds (fun _ h => by cases h) (by kernel_rfl) (fun _ h => by cases h) proofDecodesOnlyTexts_row_tie rfl ⟨rfl, rfl⟩ (by kernel_rfl) rfl
    (fun f fn hf hfn => by
      obtain rfl : f = 4 := Option.some.inj ((show Tryd.prog.funcNamed "armature/armaturelaw22.ProofDecodesOnlyTexts" = some 4 by kernel_rfl).symm.trans hf) |>.symm
      obtain rfl : fn = Tryd.f4 := (Option.some.inj (Tryd.func4.symm.trans hfn)).symm
      exact ⟨by kernel_rfl, fun j t ht => by
        rw [Tryd.params4] at ht
        match j with
          | 0 => 
            have h3 : t = 9 := by simpa using ht.symm
            subst h3
            exact (show Tryd.prog.wantsStandIn 9 = false by kernel_rfl)
          | j + 1 => simp at ht⟩)
    (by kernel_rfl)
#print axioms law4_card
end Go.Proofs.YtneleliomipddaaDoor
