/-
  LassoMatchesReference: for every input the law returns true, and the input reads as it did. The listed variables are tied to the program's text.
-/
import Derived.Test.YtgplgbonlnodeaaGreatDoorH3
import Derived.Test.YtgplgbonlnodeaaGreatDoorTie
import Derived.Test.YtgplgbonlnodeaaGreatDoorCards
import Derived.SevenTiedAt
open Option.some renaming inj->lq
open Go.Vs

namespace Go.Proofs.YtgplgbonlnodeaaGreatDoor
open Go.Proofs.Ys
open Go.ChangeShapes Go.WideShapes Go.ChangeAt Go.WideMaps Go.WideElems Go.RowKit
theorem law3_card:Rows.LassoMatchesReferenceCardSaid:=
 Claim7.holds_tied_plain_at .later [] [.data,.data,.data] true (true,"953efbd8b76620dd0dcde23f62a43a7c3da684bc381965d3d554b63dcd91639c") true
  alh (λ_ h=>by cases h) (by kernel_rfl) (λ_ h=>by cases h) lassoMatchesReference_row_tie rfl ⟨rfl,rfl⟩ WZ rfl
  (λf F b n=>by
   obtain rfl:f=3:=lq (Wh.symm.trans b) |>.symm;obtain rfl:F=Tryz.f3:=(lq (Tryz.func3.symm.trans n)).symm;exact⟨by kernel_rfl,λj t a=>by
    rw[Tryz.params3] at a
    match j with
     | 0=>
      have H:t=27:=by simpa using a.symm
      subst H;exact(show Tryz.prog.wantsStandIn 27=false by kernel_rfl)
     | 1=>
      have H:t=30:=by simpa using a.symm
      subst H;exact(show Tryz.prog.wantsStandIn 30=false by kernel_rfl)
     | 2=>
      have H:t=31:=by simpa using a.symm
      subst H;exact(show Tryz.prog.wantsStandIn 31=false by kernel_rfl)
     | 3=>
      have H:t=34:=by simpa using a.symm
      subst H;exact(show Tryz.prog.wantsStandIn 34=false by kernel_rfl)
     | 4=>
      have H:t=37:=by simpa using a.symm
      subst H;exact(show Tryz.prog.wantsStandIn 37=false by kernel_rfl)
     | 5=>
      have H:t=38:=by simpa using a.symm
      subst H;exact(show Tryz.prog.wantsStandIn 38=false by kernel_rfl)
     |j+6=>simp at a⟩)
  (WY rfl)
#print axioms law3_card
end Go.Proofs.YtgplgbonlnodeaaGreatDoor
