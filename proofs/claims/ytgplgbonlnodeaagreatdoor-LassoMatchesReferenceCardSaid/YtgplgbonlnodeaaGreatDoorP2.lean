/-
  The listed variables and the start.
-/
import Derived.Test.YtgplgbonlnodeaaGreatDoorP1
import Derived.Test.YtgplgbonlnodeaaGreatDoorRows
import Derived.ClosedOfChecked
import Derived.ProofKit
import Derived.LaidMore
import Derived.Lay
import Derived.OpenShut
import Derived.Stop.Joined
open Option renaming none->Y
open Go.Vs

namespace Go.Proofs.YtgplgbonlnodeaaGreatDoor
open Go.Proofs.Ys
open Go.ChangeShapes Go.WideShapes Go.ChangeAt Go.WideMaps Go.WideElems Go.RowKit
abbrev zj:List (String×DataW Unit):=[("math/bits.deBruijn32tab",Rows.laid_math_bits_deBruijn32tab),("math/bits.deBruijn64tab",Rows.laid_math_bits_deBruijn64tab),("internal/strconv.uint64pow10",Rows.laid_internal_strconv_uint64pow10)]
theorem alc:ownKnob Tryz.prog.godebug=Y:=by kernel_rfl
theorem Wm:Tryz.checked.prog.types=Tryz.checked.src.types:=by kernel_rfl
theorem aly:(Tryz.checked.prog.globals.all (λg=>decide (g.type<Tryz.checked.prog.types.size))&&Tryz.checked.prog.funcs.all (λf=>f.params.all λt=>decide (t<Tryz.checked.prog.types.size)))=true:=by kernel_rfl
theorem laidOut:laidOutB Tryz.prog=true:=Go.ClosedOfChecked.laidOutB_of (Go.ClosedOfChecked.allSpec_of Tryz.checked.wellFormed Wm) aly
theorem mapsOut:mapsRowed Tryz.prog=true:=Go.ClosedOfChecked.mapsRowed_of (Go.ClosedOfChecked.allSpec_of Tryz.checked.wellFormed Wm)
theorem ald(os:Os)(args:Array Value):laidMetH Tryz.prog zj ((World.laidAll Tryz.prog os zj).forCall (λ_ _=>0) ⟨#[],args,[]⟩).memory:=by rw[MakeChecks.laidMetH_plain _ _ _ (by kernel_rfl)];exact laidMet_laidAll _ (by kernel_rfl) (by kernel_rfl)
theorem alg{W:World}:Ez pg.G W:=⟨λg c h=>by cases h⟩

end Go.Proofs.YtgplgbonlnodeaaGreatDoor
