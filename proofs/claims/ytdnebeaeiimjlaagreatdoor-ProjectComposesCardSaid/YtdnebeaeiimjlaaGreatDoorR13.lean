/-
  A closed call of function 20, by the kernel.
-/
import Derived.Test.YtdnebeaeiimjlaaGreatDoorTb

namespace Go.Proofs.YtdnebeaeiimjlaaGreatDoor
open Go Go.Vs

set_option maxRecDepth 100000 in
theorem r13_ : runB (evF pg1 60 e13_.1.1 e13_.1.2.1 e13_.1.2.2) e13_.2 = true := by kernel_rfl

end Go.Proofs.YtdnebeaeiimjlaaGreatDoor
