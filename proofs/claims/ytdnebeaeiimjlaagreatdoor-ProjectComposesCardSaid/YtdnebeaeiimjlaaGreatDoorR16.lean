/-
  A closed call of function 21, by the kernel.
-/
import Derived.Test.YtdnebeaeiimjlaaGreatDoorTb

namespace Go.Proofs.YtdnebeaeiimjlaaGreatDoor
open Go Go.Vs

set_option maxRecDepth 100000 in
theorem r16_ : runB (evF pg1 60 e16_.1.1 e16_.1.2.1 e16_.1.2.2) e16_.2 = true := by kernel_rfl

end Go.Proofs.YtdnebeaeiimjlaaGreatDoor
