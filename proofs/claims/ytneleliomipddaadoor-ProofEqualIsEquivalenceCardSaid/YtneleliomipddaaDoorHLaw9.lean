/-
  ProofEqualIsEquivalence: for every input the law returns true, and the input reads as it did. The listed variables are tied to the program's text.
-/
import Derived.Test.YtneleliomipddaaDoorG4
import Derived.Test.YtneleliomipddaaDoorTie
import Derived.Test.YtneleliomipddaaDoorCards
import Derived.SevenTiedAt
import Derived.Lay
import Derived.Carry
namespace Go.Proofs.YtneleliomipddaaDoor
open Go.Vs Go.ChangeShapes Go.WideShapes Go.ChangeAt Go.WideMaps Go.WideElems Go.RowKit

set_option maxRecDepth 100000 in
theorem law9_lifted (os : Os) (started : os.Started) (H : Type) (enc : TypeId × Value → H) :
    ReturnsInHanded {} Tryd.checked os 9 .any (fun w args => (Rows.proofEqualIsEquivalenceSpec.pre enc Tryd.prog Tryd.f9 [] false w args ∧ laidMetH Tryd.prog laidL w) ∧ sizedMet enc Tryd.prog Tryd.f9 (OpenSpec.ofChange Rows.proofEqualIsEquivalenceSpec) false w args)
      (Rows.proofEqualIsEquivalenceSpec.post enc Tryd.prog Tryd.f9 false true false false) := by
  refine returnsInHanded_and_shaped (C := Tryd.checked) (X := fun w _ => laidMetH Tryd.prog laidL w) (fun _ _ _ hh h => h.of_heap hh) own started (by kernel_rfl) Tryd.func9
    (ChangeSpec.witness_shaped (enc := enc) (C := Tryd.checked) (os := os) (X := fun w _ => laidMetH Tryd.prog laidL w) false (World.laidAll Tryd.prog os laidL) #[.int .u16 0, .slice none 0 0, .slice none 0 0] 8 (World.laidAll_os _ _ _) (World.shaped_of_ZipB (by kernel_rfl) (by kernel_rfl)) (by kernel_rfl) (by kernel_rfl) (by kernel_rfl) (door_met os _)) ?_
  intro W base args ds gs before hval0 hW hL hS
  have hval : ∀ (j : Nat) t v, Tryd.f9.params[j]? = some t → args[j]? = some v → Value.okWide Tryd.prog W .any base t v := hval0
  have hW' := hW
  obtain ⟨p, q, hA0, hV, rfl, hfz, hnd⟩ := hW
  have hA : DataW.TrodAll enc Tryd.prog W 0 (fun _ => true) true Tryd.f9.params.toList args.toList ds p := hA0
  rw [Tryd.params9] at hA hval
  obtain ⟨v0, v1, v2, d0, d1, d2, p0, p1, p2, rfl, rfl, rfl, h0, h1, h2⟩ := trodAll_three hA
  obtain ⟨rfl, rfl⟩ := trodVars_none hV
  obtain ⟨n0, rfl, rfl, _, w0⟩ := open_int Tryd.underlying22 (hval 0 22 v0 rfl rfl) h0
  obtain ⟨o1, r1, w1⟩ := rep_steps (hval 1 23 v1 rfl rfl) h1
  obtain ⟨o2, r2, w2⟩ := rep_steps (hval 2 23 v2 rfl rfl) h2
  obtain ⟨H', hc⟩ := law9 w1 w2 n0 (u16_range w0)
  refine (law_calls (pg_ok (wok hL hS)) hc ⟨fun g cs h => by cases h⟩ (repL_cons (.p _ _ (.int _ n0)) (repL_cons r1 (repL_cons r2 repL_nil)))).mono ?_
  rintro e W' ⟨rfl, B⟩
  refine ⟨.bool true, rfl, ?_⟩
  refine post_law (tb := 4) laidOut ?_ rfl hW' (by kernel_rfl) Tryd.underlying4 rfl B
  intro t ht
  rw [Tryd.params9] at ht
  have ht' : t = 22 ∨ t = 23 ∨ t = 23 := by simpa using ht
  rcases ht' with rfl | rfl | rfl
  · exact ⟨by kernel_rfl, of_decide_eq_true (by kernel_rfl)⟩
  · exact ⟨by kernel_rfl, of_decide_eq_true (by kernel_rfl)⟩
  · exact ⟨by kernel_rfl, of_decide_eq_true (by kernel_rfl)⟩

theorem law9_holds : Rows.ProofEqualIsEquivalenceSaid :=
  OpenClaim.holds_of_wide 9 Tryd.f9 rfl rfl rfl rfl rfl rfl rfl ⟨rfl, rfl, rfl, rfl, rfl⟩ rfl rfl rfl rfl rfl (by kernel_rfl) Tryd.func9 (by kernel_rfl)
    (of_decide_eq_true (by kernel_rfl)) (by unfold Func.isWrapper; first | (rw [if_pos (by decide +kernel)]; kernel_rfl) | (rw [if_neg (by decide +kernel)]; exact ⟨rfl, rfl⟩))
    (fun os started H enc _ => law9_lifted os started H enc)

theorem law9_card : Rows.ProofEqualIsEquivalenceCardSaid :=
  Claim7.holds_tied_plain_at .later [] [.data, .data, .data, .data, .sentinel, .sentinel, .pinned] true (true, "acfd1e87da08a19e971d612d7ae770467c727232302ac133e2c847066f276185") true
    law9_holds (fun _ h => by cases h) (by kernel_rfl) (fun _ h => by cases h) proofEqualIsEquivalence_row_tie rfl ⟨rfl, rfl⟩ (by kernel_rfl) rfl
    (fun f fn hf hfn => by
      obtain rfl : f = 9 := Option.some.inj ((show Tryd.prog.funcNamed "armature/armaturelaw22.ProofEqualIsEquivalence" = some 9 by kernel_rfl).symm.trans hf) |>.symm
      obtain rfl : fn = Tryd.f9 := (Option.some.inj (Tryd.func9.symm.trans hfn)).symm
      exact ⟨by kernel_rfl, fun j t ht => by
        rw [Tryd.params9] at ht
        match j with
          | 0 => 
            have h3 : t = 22 := by simpa using ht.symm
            subst h3
            exact (show Tryd.prog.wantsStandIn 22 = false by kernel_rfl)
          | 1 => 
            have h3 : t = 23 := by simpa using ht.symm
            subst h3
            exact (show Tryd.prog.wantsStandIn 23 = false by kernel_rfl)
          | 2 => 
            have h3 : t = 23 := by simpa using ht.symm
            subst h3
            exact (show Tryd.prog.wantsStandIn 23 = false by kernel_rfl)
          | j + 3 => simp at ht⟩)
    (by kernel_rfl)
#print axioms law9_card
end Go.Proofs.YtneleliomipddaaDoor
