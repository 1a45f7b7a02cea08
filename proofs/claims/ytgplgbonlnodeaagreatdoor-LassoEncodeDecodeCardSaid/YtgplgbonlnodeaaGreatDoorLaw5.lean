/-
  LassoEncodeDecode: for every input the law returns true, and the input reads as it did. The listed variables are tied to the program's text.
-/
import Derived.Test.YtgplgbonlnodeaaGreatDoorH5
import Derived.Test.YtgplgbonlnodeaaGreatDoorTie
import Derived.Test.YtgplgbonlnodeaaGreatDoorCards
import Derived.SevenTiedAt
open Option.some renaming inj→oi
namespace Go.Proofs.YtgplgbonlnodeaaGreatDoor
open Go.Vs Go.ChangeShapes Go.WideShapes Go.ChangeAt Go.WideMaps Go.WideElems Go.RowKit
theorem law5_card:Rows.LassoEncodeDecodeCardSaid:=
 Claim7.holds_tied_plain_at .later [] [.data,.data,.data] true (true,"953efbd8b76620dd0dcde23f62a43a7c3da684bc381965d3d554b63dcd91639c") true
  alN (fun _ h=>by cases h) (by kernel_rfl) (fun _ h=>by cases h) lassoEncodeDecode_row_tie rfl ⟨rfl,rfl⟩ P0 rfl
  (fun f fn hf qu=>by
   obtain rfl:f=5:=oi (Yc.symm.trans hf) |>.symm;obtain rfl:fn=Tryz.f5:=(oi (Tryz.func5.symm.trans qu)).symm;exact⟨by kernel_rfl,fun j t ht=>by
    rw[Tryz.params5] at ht
    match j with
     | 0=>
      have h3:t=27:=by simpa using ht.symm
      subst h3;exact(show Tryz.prog.wantsStandIn 27=false by kernel_rfl)
     | 1=>
      have h3:t=30:=by simpa using ht.symm
      subst h3;exact(show Tryz.prog.wantsStandIn 30=false by kernel_rfl)
     | 2=>
      have h3:t=31:=by simpa using ht.symm
      subst h3;exact(show Tryz.prog.wantsStandIn 31=false by kernel_rfl)
     | 3=>
      have h3:t=38:=by simpa using ht.symm
      subst h3;exact(show Tryz.prog.wantsStandIn 38=false by kernel_rfl)
     |j+4=>simp at ht⟩)
  (PZ rfl)
#print axioms law5_card
end Go.Proofs.YtgplgbonlnodeaaGreatDoor
