/-
  The fixed examples, run by the kernel.
-/
import Derived.Test.YtebbfckifhbkoaaGreatDoorG5
import Derived.KernelRfl

namespace Go.Proofs.YtebbfckifhbkoaaGreatDoor
open Go.Vs
theorem head_run : isTrue (evF pg 60 9 [] ⟨[], []⟩) = true := by kernel_rfl
theorem isTrue_eq {x : Option (Res × Hp)} (h : isTrue x = true) : ∃ H, x = some (.val (.p (.bool true)), H) := by
  unfold isTrue at h
  split at h
  · rename_i b H
    subst h
    exact ⟨H, rfl⟩
  · cases h

end Go.Proofs.YtebbfckifhbkoaaGreatDoor
