/-
  LassoDecodeEncode: for every input the law returns true, and the input reads as it did. The listed variables are tied to the program's text.
-/
import Derived.Test.YtgplgbonlnodeaaGreatDoorH4
import Derived.Test.YtgplgbonlnodeaaGreatDoorTie
import Derived.Test.YtgplgbonlnodeaaGreatDoorCards
import Derived.SevenTiedAt
open Option.some renaming inj→oi
namespace Go.Proofs.YtgplgbonlnodeaaGreatDoor
open Go.Vs Go.ChangeShapes Go.WideShapes Go.ChangeAt Go.WideMaps Go.WideElems Go.RowKit
theorem law4_card:Rows.LassoDecodeEncodeCardSaid:=
 Claim7.holds_tied_plain_at .later [] [.data,.data,.data] true (true,"953efbd8b76620dd0dcde23f62a43a7c3da684bc381965d3d554b63dcd91639c") true
  alJ (fun _ h=>by cases h) (by kernel_rfl) (fun _ h=>by cases h) lassoDecodeEncode_row_tie rfl ⟨rfl,rfl⟩ P0 rfl
  (fun f fn hf qu=>by
   obtain rfl:f=4:=oi (Yb.symm.trans hf) |>.symm;obtain rfl:fn=Tryz.f4:=(oi (Tryz.func4.symm.trans qu)).symm;exact⟨by kernel_rfl,fun j t ht=>by
    rw[Tryz.params4] at ht
    match j with
     | 0=>
      have h3:t=27:=by simpa using ht.symm
      subst h3;exact(show Tryz.prog.wantsStandIn 27=false by kernel_rfl)
     | 1=>
      have h3:t=31:=by simpa using ht.symm
      subst h3;exact(show Tryz.prog.wantsStandIn 31=false by kernel_rfl)
     | 2=>
      have h3:t=37:=by simpa using ht.symm
      subst h3;exact(show Tryz.prog.wantsStandIn 37=false by kernel_rfl)
     |j+3=>simp at ht⟩)
  (PZ rfl)
#print axioms law4_card
end Go.Proofs.YtgplgbonlnodeaaGreatDoor
