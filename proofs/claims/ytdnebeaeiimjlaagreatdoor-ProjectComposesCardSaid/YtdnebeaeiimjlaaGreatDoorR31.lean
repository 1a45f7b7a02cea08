/-
  A closed call of function 13, by the kernel.
-/
import Derived.Test.YtdnebeaeiimjlaaGreatDoorTb

namespace Go.Proofs.YtdnebeaeiimjlaaGreatDoor
open Go Go.Vs

set_option maxRecDepth 100000 in
theorem r31_ : runB (evF pg2 60 e31_.1.1 e31_.1.2.1 e31_.1.2.2) e31_.2 = true := by kernel_rfl

end Go.Proofs.YtdnebeaeiimjlaaGreatDoor
