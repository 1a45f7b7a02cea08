/-
  The law LassoMatchesReference as a call, its head run by the kernel.
-/
import Derived.Test.YtgplgbonlnodeaaGreatDoorG7
import Derived.Test.YtgplgbonlnodeaaGreatDoorX
open List renaming length->O
open Option renaming some->Z
open Go.Vs

namespace Go.Proofs.Ys
theorem alz{x:Option (bB×Hp)}(h:isTrue x=true):∃H,x=Z (.val (.p (.bool true)),H):=by unfold isTrue at h;split at h;{rename_i b H;subst h;exact⟨H,rfl⟩};cases h
theorem alA(H:Hp):ag (call pg) 10 [] H=Z (.val (.p (.bool true)),H):=by obtain⟨a,h⟩:=alz alB;exact Ev (HD 60 h) rfl rfl rfl rfl
theorem ale(s:Sp)(h:yE s)(n:mF s)(l:O (els s.so)<4611686018427387904)(a:Sl Int)(st:Int)(H:O (els a)<4611686018427387904)(f:a≠.cI)(bs:Sl Bn)(d:O (els bs)<4611686018427387904)(e:∀b∈els bs,b.lo.tu≠.cI)(c:Sl Gt)(m:Mo)(V:Sl Bool): ∃H',call pg 3 [.p (.agg s.cl),.p (.agg [ae a,st]),.p (aQ bs),.p (.agg [bk c]),.p (.agg [ae m.a,m.st,bp m.ss,m.lp]),.p (bX V)] ⟨[],[]⟩=Z (.val (.p (.bool true)),H'):=ak9 (aa:=[_,_,_,_,_,_]) (akL alA s h n a st bs c m V H l d f e ⟨[],[]⟩)

end Go.Proofs.Ys
