/-
  The fixed examples, run by the kernel.
-/
import Derived.Test.YtgplgbonlnodeaaGreatDoorG5

namespace Go.Proofs.YtgplgbonlnodeaaGreatDoor
open Go.Vs
theorem aol:isTrue (eT pg 60 10 [] ⟨[],[]⟩)=true:=by kernel_rfl

end Go.Proofs.YtgplgbonlnodeaaGreatDoor
