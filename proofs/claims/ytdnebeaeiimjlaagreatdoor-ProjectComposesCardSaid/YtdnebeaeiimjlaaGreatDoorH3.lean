/-
  ProjectComposes: the row's statement.
-/
import Derived.Test.YtdnebeaeiimjlaaGreatDoorP2
import Derived.Test.YtdnebeaeiimjlaaGreatDoorJ3
import Derived.Test.YtdnebeaeiimjlaaGreatDoorG6
import Derived.SevenTiedAt
import Derived.Lay
import Derived.Carry

namespace Go.Proofs.YtdnebeaeiimjlaaGreatDoor
open Go.Vs Go.ChangeShapes Go.WideShapes Go.ChangeAt Go.WideMaps Go.WideElems Go.RowKit

set_option maxRecDepth 100000 in
theorem law3_lifted (os : Os) (started : os.Started) (H : Type) (enc : TypeId × Value → H) :
    ReturnsInHanded {} Tryz.checked os 3 .any (fun w args => (Rows.projectComposesSpec.pre enc Tryz.prog Tryz.f3 [] false w args ∧ laidMetH Tryz.prog laidL w) ∧ sizedMet enc Tryz.prog Tryz.f3 (OpenSpec.ofChange Rows.projectComposesSpec) false w args)
     (Rows.projectComposesSpec.post enc Tryz.prog Tryz.f3 false true false false) := by
 refine returnsInHanded_and_sized (C := Tryz.checked) (X := fun w _ => laidMetH Tryz.prog laidL w) (fun _ _ _ hh h => h.of_heap hh) ownK started (by kernel_rfl) Tryz.func3
  (ChangeSpec.witness_shaped (enc := enc) (C := Tryz.checked) (os := os) (X := fun w _ => laidMetH Tryz.prog laidL w) false (World.laidAll Tryz.prog os laidL) #[.agg #[.slice none 0 0, .slice none 0 0, .slice none 0 0, .slice none 0 0], .agg #[.slice none 0 0, .int .i64 0, .slice none 0 0, .int .i64 0], .slice none 0 0, .slice none 0 0] 8 (World.laidAll_os _ _ _) (World.shaped_of_ZipB (by kernel_rfl) (by kernel_rfl)) (by kernel_rfl) (by kernel_rfl) (by kernel_rfl) (door_met os _)) ?_
 intro W base args ds gs before hval0 hW hZ0 hL _
 have hval : ∀ (j : Nat) t v, Tryz.f3.params[j]? = some t → args[j]? = some v → Value.okWide Tryz.prog W .any base t v := hval0
 have hZ : ∀ (j : Nat) t v, Tryz.f3.params[j]? = some t → args[j]? = some v → Rd enc W t v := hZ0
 have hW' := hW
 obtain ⟨p, q, hA0, hV, rfl, hfz, hnd⟩ := hW
 have hA : DataW.TrodAll enc Tryz.prog W 0 (fun _ => true) true Tryz.f3.params.toList args.toList ds p := hA0
 rw [Tryz.params3] at hA hval hZ
 obtain ⟨v0, v1, v2, v3, d0, d1, d2, d3, p0, p1, p2, p3, rfl, rfl, rfl, h0, h1, h2, h3⟩ := trodAll_four hA
 obtain ⟨rfl, rfl⟩ := trodVars_none hV
 obtain ⟨so0, fi0, f30, f40, ns0, r0, s0, t0, u0, w0⟩ := rep_spec (hval 0 27 v0 rfl rfl) (hZ 0 27 v0 rfl rfl)
 obtain ⟨q1, r1, s1, t1⟩ := rep_model (hval 1 33 v1 rfl rfl) (hZ 1 33 v1 rfl rfl)
 obtain ⟨q2, r2⟩ := rep_ints (hval 2 28 v2 rfl rfl) (hZ 2 28 v2 rfl rfl)
 obtain ⟨q3, r3⟩ := rep_ints (hval 3 28 v3 rfl rfl) (hZ 3 28 v3 rfl rfl)
 obtain ⟨H', hc⟩ := law3 s0 t0 u0 w0 s1 t1 q2 q3
 refine (law_calls pgL_ok hc globs_ok (repL_cons r0 (repL_cons r1 (repL_cons r2 (repL_cons r3 repL_nil))))).mono ?_
 rintro e W' ⟨rfl, B⟩
 refine ⟨.bool true, rfl, ?_⟩
 refine post_law (tb := 4) laidOut ?_ rfl hW' (by kernel_rfl) Tryz.underlying4 rfl B
 intro t ht
 rw [Tryz.params3] at ht
 have ht' : t = 27 ∨ t = 33 ∨ t = 28 ∨ t = 28 := by simpa using ht
 rcases ht' with rfl | rfl | rfl | rfl
 ·exact ⟨by kernel_rfl, of_decide_eq_true (by kernel_rfl)⟩
 ·exact ⟨by kernel_rfl, of_decide_eq_true (by kernel_rfl)⟩
 ·exact ⟨by kernel_rfl, of_decide_eq_true (by kernel_rfl)⟩
 ·exact ⟨by kernel_rfl, of_decide_eq_true (by kernel_rfl)⟩
theorem law3_holds : Rows.ProjectComposesSaid :=
 OpenClaim.holds_of_wide 3 Tryz.f3 rfl rfl rfl rfl rfl rfl rfl ⟨rfl, rfl, rfl, rfl, rfl⟩ rfl rfl rfl rfl rfl fnn3 Tryz.func3 facts3
  (of_decide_eq_true (by kernel_rfl)) (by unfold Func.isWrapper; first | (rw [if_pos (by decide +kernel)]; kernel_rfl) | (rw [if_neg (by decide +kernel)]; exact ⟨rfl, rfl⟩))
  (fun os started H enc _ => law3_lifted os started H enc)

end Go.Proofs.YtdnebeaeiimjlaaGreatDoor
