/-
  A closed call of function 32, by the kernel.
-/
import Derived.Test.YtdnebeaeiimjlaaGreatDoorTb

namespace Go.Proofs.YtdnebeaeiimjlaaGreatDoor
open Go Go.Vs

set_option maxRecDepth 100000 in
theorem r8_ : runB (evF pg 60 e8_.1.1 e8_.1.2.1 e8_.1.2.2) e8_.2 = true := by kernel_rfl

end Go.Proofs.YtdnebeaeiimjlaaGreatDoor
