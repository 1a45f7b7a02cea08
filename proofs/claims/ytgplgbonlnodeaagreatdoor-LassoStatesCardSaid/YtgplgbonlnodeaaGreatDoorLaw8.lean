/-
  LassoStates: for every input the law returns true, and the input reads as it did. The listed variables are tied to the program's text.
-/
import Derived.Test.YtgplgbonlnodeaaGreatDoorH8
import Derived.Test.YtgplgbonlnodeaaGreatDoorTie
import Derived.Test.YtgplgbonlnodeaaGreatDoorCards
import Derived.SevenTiedAt
open Option.some renaming inj->nQ

namespace Go.Proofs.YtgplgbonlnodeaaGreatDoor
open Go.Vs Go.ChangeShapes Go.WideShapes Go.ChangeAt Go.WideMaps Go.WideElems Go.RowKit
theorem law8_card:Rows.LassoStatesCardSaid:=
 Claim7.holds_tied_plain_at .later [] [.data,.data,.data] true (true,"953efbd8b76620dd0dcde23f62a43a7c3da684bc381965d3d554b63dcd91639c") true
  law8_holds (fun _ h=>by cases h) (by kernel_rfl) (fun _ h=>by cases h) lassoStates_row_tie rfl ⟨rfl,rfl⟩ mainT rfl
  (fun f fn hf hfn=>by
   obtain rfl:f=8:=nQ (fnn8.symm.trans hf) |>.symm;obtain rfl:fn=Tryz.f8:=(nQ (Tryz.func8.symm.trans hfn)).symm;exact⟨by kernel_rfl,fun j t ht=>by
    rw[Tryz.params8] at ht
    match j with
     | 0=>
      have h3:t=27:=by simpa using ht.symm
      subst h3;exact(show Tryz.prog.wantsStandIn 27=false by kernel_rfl)
     | 1=>
      have h3:t=30:=by simpa using ht.symm
      subst h3;exact(show Tryz.prog.wantsStandIn 30=false by kernel_rfl)
     | 2=>
      have h3:t=31:=by simpa using ht.symm
      subst h3;exact(show Tryz.prog.wantsStandIn 31=false by kernel_rfl)
     | 3=>
      have h3:t=34:=by simpa using ht.symm
      subst h3;exact(show Tryz.prog.wantsStandIn 34=false by kernel_rfl)
     | 4=>
      have h3:t=38:=by simpa using ht.symm
      subst h3;exact(show Tryz.prog.wantsStandIn 38=false by kernel_rfl)
     |j+5=>simp at ht⟩)
  (goesB rfl)
#print axioms law8_card
end Go.Proofs.YtgplgbonlnodeaaGreatDoor
