/-
  A closed call of function 22, by the kernel.
-/
import Derived.Test.YtdnebeaeiimjlaaGreatDoorTb

namespace Go.Proofs.YtdnebeaeiimjlaaGreatDoor
open Go Go.Vs

set_option maxRecDepth 100000 in
theorem r24_ : runB (evF pg1 60 e24_.1.1 e24_.1.2.1 e24_.1.2.2) e24_.2 = true := by kernel_rfl

end Go.Proofs.YtdnebeaeiimjlaaGreatDoor
