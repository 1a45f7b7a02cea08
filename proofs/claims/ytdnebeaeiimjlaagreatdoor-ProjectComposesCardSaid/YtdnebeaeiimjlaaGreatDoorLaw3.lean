/-
  ProjectComposes: for every input the law returns true, and the input reads as it did. The listed variables are tied to the program's text.
-/
import Derived.Test.YtdnebeaeiimjlaaGreatDoorH3
import Derived.Test.YtdnebeaeiimjlaaGreatDoorTie
import Derived.Test.YtdnebeaeiimjlaaGreatDoorCards
import Derived.SevenTiedAt

namespace Go.Proofs.YtdnebeaeiimjlaaGreatDoor
open Go.Vs Go.ChangeShapes Go.WideShapes Go.ChangeAt Go.WideMaps Go.WideElems Go.RowKit
theorem law3_card : Rows.ProjectComposesCardSaid :=
 Claim7.holds_tied_plain_at .later [] [.data, .data, .data] true (true, "76167022981e6489b4d4c41d623b7faa56cd28a2d8fc534df77799f8032ad4c6") true
  law3_holds (fun _ h => by cases h) (by kernel_rfl) (fun _ h => by cases h) projectComposes_row_tie rfl ⟨rfl, rfl⟩ mainT rfl
  (fun f fn hf hfn => by
   obtain rfl : f = 3 := Option.some.inj (fnn3.symm.trans hf) |>.symm
   obtain rfl : fn = Tryz.f3 := (Option.some.inj (Tryz.func3.symm.trans hfn)).symm
   exact ⟨by kernel_rfl, fun j t ht => by
    rw [Tryz.params3] at ht
    match j with
     | 0 => 
      have h3 : t = 27 := by simpa using ht.symm
      subst h3
      exact (show Tryz.prog.wantsStandIn 27 = false by kernel_rfl)
     | 1 => 
      have h3 : t = 33 := by simpa using ht.symm
      subst h3
      exact (show Tryz.prog.wantsStandIn 33 = false by kernel_rfl)
     | 2 => 
      have h3 : t = 28 := by simpa using ht.symm
      subst h3
      exact (show Tryz.prog.wantsStandIn 28 = false by kernel_rfl)
     | 3 => 
      have h3 : t = 28 := by simpa using ht.symm
      subst h3
      exact (show Tryz.prog.wantsStandIn 28 = false by kernel_rfl)
     | j + 4 => simp at ht⟩)
  (goesB rfl)
#print axioms law3_card
end Go.Proofs.YtdnebeaeiimjlaaGreatDoor
