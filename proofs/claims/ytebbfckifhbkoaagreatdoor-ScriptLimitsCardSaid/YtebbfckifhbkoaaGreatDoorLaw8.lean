/-
  ScriptLimits: for every input the law returns true, and the input reads as it did. The listed variables are tied to the program's text.
-/
import Derived.Test.YtebbfckifhbkoaaGreatDoorG8
import Derived.Test.YtebbfckifhbkoaaGreatDoorJ8
import Derived.Test.YtebbfckifhbkoaaGreatDoorTi
import Derived.Test.YtebbfckifhbkoaaGreatDoorG4
import Derived.Test.YtebbfckifhbkoaaGreatDoorQ8
import Derived.Test.YtebbfckifhbkoaaGreatDoorCards
import Derived.SevenTiedAt
import Derived.Lay
import Derived.Carry
namespace Go.Proofs.YtebbfckifhbkoaaGreatDoor
open Go.Vs Go.ChangeShapes Go.WideShapes Go.ChangeAt Go.WideMaps Go.WideElems Go.RowKit

theorem fnn8 : Tryz.prog.funcNamed "armature/armaturelaw36.ScriptLimits" = some 8 := by kernel_rfl

set_option maxRecDepth 100000 in
theorem law8_lifted (os : Os) (started : os.Started) (H : Type) (enc : TypeId × Value → H) :
    ReturnsInHanded {} Tryz.checked os 8 .any (fun w args => (Rows.scriptLimitsSpec.pre enc Tryz.prog Tryz.f8 [] false w args ∧ laidMetH Tryz.prog laidL w) ∧ sizedMet enc Tryz.prog Tryz.f8 (OpenSpec.ofChange Rows.scriptLimitsSpec) false w args)
      (Rows.scriptLimitsSpec.post enc Tryz.prog Tryz.f8 false true false false) := by
  refine returnsInHanded_and_shaped (C := Tryz.checked) (X := fun w _ => laidMetH Tryz.prog laidL w) (fun _ _ _ hh h => h.of_heap hh) ownK started (by kernel_rfl) Tryz.func8
    (ChangeSpec.witness_shaped (enc := enc) (C := Tryz.checked) (os := os) (X := fun w _ => laidMetH Tryz.prog laidL w) false (World.laidAll Tryz.prog os laidL) #[.string ⟨#[]⟩, .int .u8 0] 8 (World.laidAll_os _ _ _) (World.shaped_of_ZipB (by kernel_rfl) (by kernel_rfl)) (by kernel_rfl) (by kernel_rfl) (by kernel_rfl) (door_met os _)) ?_
  intro W base args ds gs before hval0 hW hL hS
  have hval : ∀ (j : Nat) t v, Tryz.f8.params[j]? = some t → args[j]? = some v → Value.okWide Tryz.prog W .any base t v := hval0
  have hW' := hW
  obtain ⟨p, q, hA0, hV, rfl, hfz, hnd⟩ := hW
  have hA : DataW.TrodAll enc Tryz.prog W 0 (fun _ => true) true Tryz.f8.params.toList args.toList ds p := hA0
  rw [Tryz.params8] at hA hval
  obtain ⟨v0, v1, d0, d1, p0, p1, rfl, rfl, rfl, h0, h1⟩ := trodAll_two hA
  obtain ⟨rfl, rfl⟩ := trodVars_none hV
  obtain ⟨s0, rfl, rfl, _, w0⟩ := Go.ChangeMaps.open_string Tryz.underlying9 (hval 0 9 v0 rfl rfl) h0
  obtain ⟨n1, rfl, rfl, _, w1⟩ := open_int Tryz.underlying5 (hval 1 5 v1 rfl rfl) h1
  obtain ⟨H', hc⟩ := law8 s0.data.toList n1 w1
  refine (law_calls (pg_ok (wok hL hS)) hc (globs_ok hL) (repL_cons (rep_string W s0) (repL_cons (.p _ _ (.int _ n1)) repL_nil))).mono ?_
  rintro e W' ⟨rfl, B⟩
  refine ⟨.bool true, rfl, ?_⟩
  refine post_law (tb := 4) laidOut ?_ rfl hW' (by kernel_rfl) Tryz.underlying4 rfl B
  intro t ht
  rw [Tryz.params8] at ht
  have ht' : t = 9 ∨ t = 5 := by simpa using ht
  rcases ht' with rfl | rfl
  · exact ⟨by kernel_rfl, of_decide_eq_true (by kernel_rfl)⟩
  · exact ⟨by kernel_rfl, of_decide_eq_true (by kernel_rfl)⟩

theorem law8_holds : Rows.ScriptLimitsSaid :=
  OpenClaim.holds_of_wide 8 Tryz.f8 rfl rfl rfl rfl rfl rfl rfl ⟨rfl, rfl, rfl, rfl, rfl⟩ rfl rfl rfl rfl rfl fnn8 Tryz.func8 facts8
    (of_decide_eq_true (by kernel_rfl)) (by unfold Func.isWrapper; first | (rw [if_pos (by decide +kernel)]; kernel_rfl) | (rw [if_neg (by decide +kernel)]; exact ⟨rfl, rfl⟩))
    (fun os started H enc _ => law8_lifted os started H enc)

theorem law8_card : Rows.ScriptLimitsCardSaid :=
  Claim7.holds_tied_plain_at .later [] [.data, .pinned, .data, .sentinel, .sentinel, .data, .data, .data, .data] true (true, "fde00d129ed1f988b30accdb49446c73fca70c39d2e86a2c4efcc4d4489cc606") true
    law8_holds (fun _ h => by cases h) (by kernel_rfl) (fun _ h => by cases h) scriptLimits_rtie rfl ⟨rfl, rfl⟩ mainT rfl
    (fun f fn hf hfn => by
      obtain rfl : f = 8 := Option.some.inj (fnn8.symm.trans hf) |>.symm
      obtain rfl : fn = Tryz.f8 := (Option.some.inj (Tryz.func8.symm.trans hfn)).symm
      exact ⟨by kernel_rfl, fun j t ht => by
        rw [Tryz.params8] at ht
        match j with
          | 0 => 
            have h3 : t = 9 := by simpa using ht.symm
            subst h3
            exact (show Tryz.prog.wantsStandIn 9 = false by kernel_rfl)
          | 1 => 
            have h3 : t = 5 := by simpa using ht.symm
            subst h3
            exact (show Tryz.prog.wantsStandIn 5 = false by kernel_rfl)
          | j + 2 => simp at ht⟩)
    (goesB rfl)
#print axioms law8_card
end Go.Proofs.YtebbfckifhbkoaaGreatDoor
