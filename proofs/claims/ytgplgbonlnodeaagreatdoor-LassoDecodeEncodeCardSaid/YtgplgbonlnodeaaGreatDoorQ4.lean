/-
  The law LassoDecodeEncode as a call, its head run by the kernel.
-/
import Derived.Test.YtgplgbonlnodeaaGreatDoorG7
import Derived.Test.YtgplgbonlnodeaaGreatDoorX
import Derived.Test.YtgplgbonlnodeaaGreatDoorKg
namespace Go.Proofs.YtgplgbonlnodeaaGreatDoor
open Go.Vs
theorem Pq{x:Option (bt×Hp)}(h:isTrue x=true):∃H,x=some (.val (.p (.bool true)),H):=by
 unfold isTrue at h;split at h
 ·rename_i b H;subst h;exact⟨H,rfl⟩
 ·cases h
theorem Ps(H:Hp):av (call pg) 10 [] H=some (.val (.p (.bool true)),H):=by
 obtain⟨H',h⟩:=Pq Yv;exact HX (Qg 60 h) rfl rfl rfl rfl
theorem alI(sp:Sp)(rB:xg sp)(tv:nY sp)(_:(els sp.so).length<4611686018427387904)(bs:Sl Bn)(fA:(els bs).length<4611686018427387904)(sS:∀b∈els bs,b.lo.tu≠.cV)(m:Mo)(ha:m.a≠.cV):
    ∃H',call pg 4 [.p (.agg sp.cl),.p (bG bs),.p (.agg [af m.a,.int .i64 m.st,bK m.ss,.int .i64 m.lp])] ⟨[],[]⟩=some (.val (.p (.bool true)),H'):=
 WZ (aa:=[_,_,_]) (amh Ps sp rB tv bs fA sS m ha ⟨[],[]⟩)
end Go.Proofs.YtgplgbonlnodeaaGreatDoor
