/-
  The evaluator's program for the law is the cut's.
-/
import Derived.Test.YtdnebeaeiimjlaaGreatDoorTc
import Derived.Test.YtdnebeaeiimjlaaGreatDoorG5

namespace Go.Proofs.YtdnebeaeiimjlaaGreatDoor
open Go Go.Vs

variable {W : World}
theorem pgL_fn : ∀ f fc, pgLF f = some fc → FGood Tryz.prog W (fun _ => none) f fc := by
 intro f fc h
 unfold pgLF at h
 split at h
 ·cases h; exact FOk.good fc3_ok
 ·exact autoF_good (cf := cf) Tryz.func5 h fun _ => gens_ok
 ·cases h; exact FOk.good fc6_ok
 ·cases h; exact FOk.good fc7_ok
 ·exact autoF_good (cf := cf) Tryz.func8 h fun _ => gens_ok
 ·cases h; exact FOk.good fc16_ok
 ·exact autoF_good (cf := cf) Tryz.func17 h fun _ => gens_ok
 ·exact autoF_good (cf := cf) Tryz.func18 h fun _ => gens_ok
 ·exact autoF_good (cf := cf) Tryz.func19 h fun _ => gens_ok
 ·exact autoF_good (cf := cf) Tryz.func25 h fun _ => gens_ok
 ·exact autoF_good (cf := cf) Tryz.func26 h fun _ => gens_ok
 ·cases h
theorem libL_ok : Sound Tryz.prog W (fun _ => none) libL := by
 intro f args H r H' h
 unfold libL at h
 split at h
 ·refine tabH_sound none_ok (fun e he => ?_) _ _ _ _ _ h
  rw [List.mem_singleton] at he
  subst he
  exact evF_sound pg3_ok 60 _ _ _ _ _ (runB_eq head_run)
 ·cases h
theorem pgL_ok : PgOk Tryz.prog W pgL := ⟨by kernel_rfl, libL_ok, pgL_fn, fun f x h => by cases h⟩

end Go.Proofs.YtdnebeaeiimjlaaGreatDoor
