/-
  The fixed examples, run by the kernel.
-/
import Derived.Test.YtgplgbonlnodeaaGreatDoorG4
open Go.Vs

namespace Go.Proofs.Ys
theorem alB:isTrue (dY pg 60 10 [] ⟨[],[]⟩)=true:=by kernel_rfl

end Go.Proofs.Ys
