/-
  The fixed examples, run by the kernel.
-/
import Derived.Test.YtgplgbonlnodeaaGreatDoorG5
namespace Go.Proofs.YtgplgbonlnodeaaGreatDoor
open Go.Vs
theorem head_run:isTrue (evF pg 60 10 [] ⟨[],[]⟩)=true:=by kernel_rfl
end Go.Proofs.YtgplgbonlnodeaaGreatDoor
