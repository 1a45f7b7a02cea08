/-
  The listed variables and the start.
-/
import Derived.Test.YtgplgbonlnodeaaGreatDoorP1
import Derived.Test.YtgplgbonlnodeaaGreatDoorRows
import Derived.ClosedOfChecked
import Derived.ProofKit
import Derived.LaidMore
import Derived.Lay
import Derived.OpenShut
import Derived.Stop.Joined

namespace Go.Proofs.YtgplgbonlnodeaaGreatDoor
open Go.Vs
open Go.ChangeShapes Go.WideShapes Go.ChangeAt Go.WideMaps Go.WideElems Go.RowKit
abbrev laidL:List (String×DataW Unit):=[("math/bits.deBruijn32tab",Rows.laid_math_bits_deBruijn32tab),("math/bits.deBruijn64tab",Rows.laid_math_bits_deBruijn64tab),("internal/strconv.uint64pow10",Rows.laid_internal_strconv_uint64pow10)]
theorem ownK:ownKnob Tryz.prog.godebug=none:=by kernel_rfl
theorem tys_eq:Tryz.checked.prog.types=Tryz.checked.src.types:=by kernel_rfl
theorem rest_ok:(Tryz.checked.prog.globals.all (fun g=>decide (g.type<Tryz.checked.prog.types.size))&&Tryz.checked.prog.funcs.all (fun f=>f.params.all fun t=>decide (t<Tryz.checked.prog.types.size)))=true:=by kernel_rfl
theorem laidOut:laidOutB Tryz.prog=true:=Go.ClosedOfChecked.laidOutB_of (Go.ClosedOfChecked.allSpec_of Tryz.checked.wellFormed tys_eq) rest_ok
theorem mapsOut:mapsRowed Tryz.prog=true:=Go.ClosedOfChecked.mapsRowed_of (Go.ClosedOfChecked.allSpec_of Tryz.checked.wellFormed tys_eq)
theorem door_met(os:Os)(args:Array Value):laidMetH Tryz.prog laidL ((World.laidAll Tryz.prog os laidL).forCall (fun _ _=>0) ⟨#[],args,[]⟩).memory:=by
 rw[MakeChecks.laidMetH_plain _ _ _ (by kernel_rfl)];exact laidMet_laidAll _ (by kernel_rfl) (by kernel_rfl)
theorem globs_ok{W:World}:IA pg.G W:=⟨fun g cs hg=>by cases hg⟩

end Go.Proofs.YtgplgbonlnodeaaGreatDoor
