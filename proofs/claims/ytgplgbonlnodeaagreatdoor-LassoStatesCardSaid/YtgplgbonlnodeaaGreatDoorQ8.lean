/-
  The law LassoStates as a call, its head run by the kernel.
-/
import Derived.Test.YtgplgbonlnodeaaGreatDoorG8
import Derived.Test.YtgplgbonlnodeaaGreatDoorX

namespace Go.Proofs.YtgplgbonlnodeaaGreatDoor
open Go.Vs
theorem aoj{x:Option (bR×Hp)}(h:isTrue x=true):∃H,x=some (.val (.p (.bool true)),H):=by
 unfold isTrue at h;split at h
 ·rename_i b H;subst h;exact⟨H,rfl⟩
 ·cases h
theorem aok(H:Hp):au (call pg) 10 [] H=some (.val (.p (.bool true)),H):=by
 obtain⟨H',h⟩:=aoj aol;exact NA (Lq 60 h) rfl rfl rfl rfl
theorem anX(sp:Sp)(xy:Ca sp)(A4:pC sp)(bW:(els sp.so).length<4611686018427387904)(a:Sl Int)(st:Int)(nB:(els a).length<4611686018427387904)(ha:a≠.cJ)(bs:Sl Bn)(hbl:(els bs).length<4611686018427387904)(Ap:∀b∈els bs,b.lo.tu≠.cJ)(c:Sl Gt)(V:Sl Bool):
    ∃H',call pg 8 [.p (.agg sp.cl),.p (.agg [ax a,.int .i64 st]),.p (cM bs),.p (.agg [bq c]),.p (dr V)] ⟨[],[]⟩=some (.val (.p (.bool true)),H'):=
 anL (aa:=[_,_,_,_,_]) (ann aok sp xy A4 a st bs c V nB bW hbl ha Ap ⟨[],[]⟩)

end Go.Proofs.YtgplgbonlnodeaaGreatDoor
