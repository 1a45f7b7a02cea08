/-
  ScriptIgnored: for every input the law returns true, and the input reads as it did. The listed variables are tied to the program's text.
-/
import Derived.Test.YtebbfckifhbkoaaGreatDoorG8
import Derived.Test.YtebbfckifhbkoaaGreatDoorJ6
import Derived.Test.YtebbfckifhbkoaaGreatDoorTi
import Derived.Test.YtebbfckifhbkoaaGreatDoorG4
import Derived.Test.YtebbfckifhbkoaaGreatDoorQ6
import Derived.Test.YtebbfckifhbkoaaGreatDoorCards
import Derived.SevenTiedAt
import Derived.Lay
import Derived.Carry
namespace Go.Proofs.YtebbfckifhbkoaaGreatDoor
open Go.Vs Go.ChangeShapes Go.WideShapes Go.ChangeAt Go.WideMaps Go.WideElems Go.RowKit

theorem fnn6 : Tryz.prog.funcNamed "armature/armaturelaw36.ScriptIgnored" = some 6 := by kernel_rfl

set_option maxRecDepth 100000 in
theorem law6_lifted (os : Os) (started : os.Started) (H : Type) (enc : TypeId × Value → H) :
    ReturnsInHanded {} Tryz.checked os 6 .any (fun w args => (Rows.scriptIgnoredSpec.pre enc Tryz.prog Tryz.f6 [] false w args ∧ laidMetH Tryz.prog laidL w) ∧ sizedMet enc Tryz.prog Tryz.f6 (OpenSpec.ofChange Rows.scriptIgnoredSpec) false w args)
      (Rows.scriptIgnoredSpec.post enc Tryz.prog Tryz.f6 false true false false) := by
  refine returnsInHanded_and_shaped (C := Tryz.checked) (X := fun w _ => laidMetH Tryz.prog laidL w) (fun _ _ _ hh h => h.of_heap hh) ownK started (by kernel_rfl) Tryz.func6
    (ChangeSpec.witness_shaped (enc := enc) (C := Tryz.checked) (os := os) (X := fun w _ => laidMetH Tryz.prog laidL w) false (World.laidAll Tryz.prog os laidL) #[.string ⟨#[]⟩, .int .u16 0, .bool false, .string ⟨#[]⟩] 8 (World.laidAll_os _ _ _) (World.shaped_of_ZipB (by kernel_rfl) (by kernel_rfl)) (by kernel_rfl) (by kernel_rfl) (by kernel_rfl) (door_met os _)) ?_
  intro W base args ds gs before hval0 hW hL hS
  have hval : ∀ (j : Nat) t v, Tryz.f6.params[j]? = some t → args[j]? = some v → Value.okWide Tryz.prog W .any base t v := hval0
  have hW' := hW
  obtain ⟨p, q, hA0, hV, rfl, hfz, hnd⟩ := hW
  have hA : DataW.TrodAll enc Tryz.prog W 0 (fun _ => true) true Tryz.f6.params.toList args.toList ds p := hA0
  rw [Tryz.params6] at hA hval
  obtain ⟨v0, v1, v2, v3, d0, d1, d2, d3, p0, p1, p2, p3, rfl, rfl, rfl, h0, h1, h2, h3⟩ := trodAll_four hA
  obtain ⟨rfl, rfl⟩ := trodVars_none hV
  obtain ⟨s0, rfl, rfl, _, w0⟩ := Go.ChangeMaps.open_string Tryz.underlying9 (hval 0 9 v0 rfl rfl) h0
  obtain ⟨n1, rfl, rfl, _, w1⟩ := open_int Tryz.underlying38 (hval 1 38 v1 rfl rfl) h1
  obtain ⟨n2, rfl, rfl, _⟩ := Go.RowKit.open_bool Tryz.underlying4 (hval 2 4 v2 rfl rfl) h2
  obtain ⟨s3, rfl, rfl, _, w3⟩ := Go.ChangeMaps.open_string Tryz.underlying9 (hval 3 9 v3 rfl rfl) h3
  obtain ⟨H', hc⟩ := law6 s0.data.toList n1 w1 n2 s3.data.toList
  refine (law_calls (pg_ok (wok hL hS)) hc (globs_ok hL) (repL_cons (rep_string W s0) (repL_cons (.p _ _ (.int _ n1)) (repL_cons (.p _ _ (.bool n2)) (repL_cons (rep_string W s3) repL_nil))))).mono ?_
  rintro e W' ⟨rfl, B⟩
  refine ⟨.bool true, rfl, ?_⟩
  refine post_law (tb := 4) laidOut ?_ rfl hW' (by kernel_rfl) Tryz.underlying4 rfl B
  intro t ht
  rw [Tryz.params6] at ht
  have ht' : t = 9 ∨ t = 38 ∨ t = 4 ∨ t = 9 := by simpa using ht
  rcases ht' with rfl | rfl | rfl | rfl
  · exact ⟨by kernel_rfl, of_decide_eq_true (by kernel_rfl)⟩
  · exact ⟨by kernel_rfl, of_decide_eq_true (by kernel_rfl)⟩
  · exact ⟨by kernel_rfl, of_decide_eq_true (by kernel_rfl)⟩
  · exact ⟨by kernel_rfl, of_decide_eq_true (by kernel_rfl)⟩

theorem law6_holds : Rows.ScriptIgnoredSaid :=
  OpenClaim.holds_of_wide 6 Tryz.f6 rfl rfl rfl rfl rfl rfl rfl ⟨rfl, rfl, rfl, rfl, rfl⟩ rfl rfl rfl rfl rfl fnn6 Tryz.func6 facts6
    (of_decide_eq_true (by kernel_rfl)) (by unfold Func.isWrapper; first | (rw [if_pos (by decide +kernel)]; kernel_rfl) | (rw [if_neg (by decide +kernel)]; exact ⟨rfl, rfl⟩))
    (fun os started H enc _ => law6_lifted os started H enc)

theorem law6_card : Rows.ScriptIgnoredCardSaid :=
  Claim7.holds_tied_plain_at .later [] [.data, .pinned, .data, .sentinel, .sentinel, .data, .data, .data, .data] true (true, "fde00d129ed1f988b30accdb49446c73fca70c39d2e86a2c4efcc4d4489cc606") true
    law6_holds (fun _ h => by cases h) (by kernel_rfl) (fun _ h => by cases h) scriptIgnored_rtie rfl ⟨rfl, rfl⟩ mainT rfl
    (fun f fn hf hfn => by
      obtain rfl : f = 6 := Option.some.inj (fnn6.symm.trans hf) |>.symm
      obtain rfl : fn = Tryz.f6 := (Option.some.inj (Tryz.func6.symm.trans hfn)).symm
      exact ⟨by kernel_rfl, fun j t ht => by
        rw [Tryz.params6] at ht
        match j with
          | 0 => 
            have h3 : t = 9 := by simpa using ht.symm
            subst h3
            exact (show Tryz.prog.wantsStandIn 9 = false by kernel_rfl)
          | 1 => 
            have h3 : t = 38 := by simpa using ht.symm
            subst h3
            exact (show Tryz.prog.wantsStandIn 38 = false by kernel_rfl)
          | 2 => 
            have h3 : t = 4 := by simpa using ht.symm
            subst h3
            exact (show Tryz.prog.wantsStandIn 4 = false by kernel_rfl)
          | 3 => 
            have h3 : t = 9 := by simpa using ht.symm
            subst h3
            exact (show Tryz.prog.wantsStandIn 9 = false by kernel_rfl)
          | j + 4 => simp at ht⟩)
    (goesB rfl)
#print axioms law6_card
end Go.Proofs.YtebbfckifhbkoaaGreatDoor
