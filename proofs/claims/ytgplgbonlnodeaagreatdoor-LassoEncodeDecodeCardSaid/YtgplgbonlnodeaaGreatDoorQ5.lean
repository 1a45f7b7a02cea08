/-
  The law LassoEncodeDecode as a call, its head run by the kernel.
-/
import Derived.Test.YtgplgbonlnodeaaGreatDoorG7
import Derived.Test.YtgplgbonlnodeaaGreatDoorX
import Derived.Test.YtgplgbonlnodeaaGreatDoorG8
namespace Go.Proofs.YtgplgbonlnodeaaGreatDoor
open Go.Vs
theorem Pq{x:Option (bt×Hp)}(h:isTrue x=true):∃H,x=some (.val (.p (.bool true)),H):=by
 unfold isTrue at h;split at h
 ·rename_i b H;subst h;exact⟨H,rfl⟩
 ·cases h
theorem Ps(H:Hp):av (call pg) 10 [] H=some (.val (.p (.bool true)),H):=by
 obtain⟨H',h⟩:=Pq Yv;exact HX (Qg 60 h) rfl rfl rfl rfl
theorem alM(sp:Sp)(rB:xg sp)(tv:nY sp)(dk:(els sp.so).length<4611686018427387904)(a:Sl Int)(st:Int)(ij:(els a).length<4611686018427387904)(ha:a≠.cV)(bs:Sl Bn)(fA:(els bs).length<4611686018427387904)(sS:∀b∈els bs,b.lo.tu≠.cV)(V:Sl Bool):
    ∃H',call pg 5 [.p (.agg sp.cl),.p (.agg [af a,.int .i64 st]),.p (bG bs),.p (dy V)] ⟨[],[]⟩=some (.val (.p (.bool true)),H'):=
 WZ (aa:=[_,_,_,_]) (alG Ps sp rB tv a st bs V ij dk fA ha sS ⟨[],[]⟩)
end Go.Proofs.YtgplgbonlnodeaaGreatDoor
