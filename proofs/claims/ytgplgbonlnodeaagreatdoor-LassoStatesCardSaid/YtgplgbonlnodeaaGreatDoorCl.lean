/-
  What a function comes to by plain names, computed in parts: the fuel is enough.
-/
import Derived.Test.YtgplgbonlnodeaaGreatDoorP2
import Derived.JoinedOf
import GoSem.ClaimGoes
import Derived.SevenTiedAt
open Array renaming getElem?_eq_some_iff->fG,getElem?_toList->CQ
open Bool renaming false_eq_true->qp,false_or->Q2
open List renaming contains_cons->aom,getElem?_cons_succ->vY,getElem?_cons_zero->ey,length_append->gG,length_cons->ew,nil_append->fF
open Nat renaming sub_self->Au,zero_add->ez,zero_le->bD

namespace Go.Proofs.YtgplgbonlnodeaaGreatDoor
open Go
def wtF(P:Program)(fs:List Func)(k:Nat)(seen:List Nat):Nat:=
 match fs with
 |[]=>0
 |g::r=>(if seen.contains k then 0 else(P.leadsTo g).length+1)+wtF P r (k+1) seen
theorem wtF_nil(P:Program):∀(fs:List Func) (k:Nat),wtF P fs k []=(fs.map fun g=>(P.leadsTo g).length+1).sum
 |[],_=>rfl
 |g::r,k=>by simp only[wtF,wtF_nil P r (k+1)];rfl
theorem wtF_far(P:Program)(f:Nat)(seen:List Nat):∀(fs:List Func) (k:Nat),f<k→wtF P fs k (f::seen)=wtF P fs k seen
 |[],_,_=>rfl
 |g::r,k,h=>by
  have :(f::seen).contains k=seen.contains k:=by
   rw[aom];have :(k==f)=false:=beq_eq_false_iff_ne.2 (by omega);rw[this,Q2]
  simp only[wtF,this,wtF_far P f seen r (k+1) (by omega)]
def ldO(P:Program):Option Func→Nat
 |some g=>(P.leadsTo g).length+1
 |none=>0
theorem wtF_add(P:Program)(f:Nat)(seen:List Nat)(h:seen.contains f=false):∀(fs:List Func) (k:Nat),k≤f→
    wtF P fs k (f::seen)+ldO P (fs[f-k]?)=wtF P fs k seen
 |[],_,_=>by simp[wtF,ldO]
 |g::r,k,hk=>by
  by_cases e:k=f
  ·subst e;have h1:(k::seen).contains k=true:=by simp
   simp only[wtF,h1,if_true,h,qp,if_false,wtF_far P k seen r (k+1) (by omega),Au,ey,ldO];omega
  ·have h1:(f::seen).contains k=seen.contains k:=by
    rw[aom];have :(k==f)=false:=beq_eq_false_iff_ne.2 e;rw[this,Q2]
   have h2:f-k=(f-(k+1))+1:=by omega
   have ih:=wtF_add P f seen h r (k+1) (by omega);simp only[wtF,h1];rw[h2,vY];omega
theorem via_more(P:Program):∀(n:Nat) (todo seen:List Nat) (m:Nat),todo.length+wtF P P.funcs.toList 0 seen≤n→P.closureVia (n+m) todo seen=P.closureVia n todo seen
 | 0,[],seen,m,_=>by cases m<;>simp[Program.closureVia]
 | 0,f::todo,seen,m,h=>by simp at h
 |n+1,[],seen,m,_=>by
  have :n+1+m=(n+m)+1:=by omega
  rw[this];simp[Program.closureVia]
 |n+1,f::todo,seen,m,h=>by
  have :n+1+m=(n+m)+1:=by omega
  rw[this];simp only[Program.closureVia];simp only[ew] at h;cases hc:seen.contains f with
  |true=>
   simp only[if_true];exact via_more P n todo seen m (by omega)
  |false=>
   simp only[qp,if_false];refine via_more P n _ _ m ?_;have ha:=wtF_add P f seen hc P.funcs.toList 0 (bD _);rw[Nat.sub_zero,CQ] at ha;cases hf:P.funcs[f]? with
   |none=>
    rw[hf] at ha;have h9:ldO P none=0:=rfl;rw[h9] at ha;simp only[Option.elim_none,fF];omega
   |some g=>
    rw[hf] at ha;have h9:ldO P (some g)=(P.leadsTo g).length+1:=rfl;rw[h9] at ha;simp only[Option.elim_some,gG];omega
def runN(P:Program):Nat→List Nat×List Nat→List Nat×List Nat
 | 0,s=>s
 |_+1,([],seen)=>([],seen)
 |n+1,(f::todo,seen)=>if seen.contains f then runN P n (todo,seen) else runN P n ((P.funcs[f]?).elim [] P.leadsTo++todo,f::seen)
theorem via_run(P:Program):∀(n m:Nat) (todo seen:List Nat),P.closureVia (m+n) todo seen=P.closureVia m (runN P n (todo,seen)).1 (runN P n (todo,seen)).2
 | 0,m,todo,seen=>rfl
 |n+1,m,[],seen=>by
  have :m+(n+1)=(m+n)+1:=rfl;rw[this];cases m<;>simp[Program.closureVia,runN]
 |n+1,m,f::todo,seen=>by
  have :m+(n+1)=(m+n)+1:=rfl;rw[this];simp only[Program.closureVia,runN];split
  ·exact via_run P n m _ _
  ·exact via_run P n m _ _
theorem runN_add(P:Program):∀(a b:Nat) (s:List Nat×List Nat),runN P (a+b) s=runN P b (runN P a s)
 | 0,b,s=>by rw[ez];rfl
 |a+1,b,([],seen)=>by
  have :a+1+b=(a+b)+1:=by omega
  rw[this];simp only[runN];cases b<;>simp[runN]
 |a+1,b,(f::todo,seen)=>by
  have :a+1+b=(a+b)+1:=by omega
  rw[this];simp only[runN];split
  ·exact runN_add P a b _
  ·exact runN_add P a b _
theorem runN_then{P:Program}{a b:Nat}{s s1 s2:List Nat×List Nat}(h1:runN P a s=s1)(h2:runN P b s1=s2):runN P (a+b) s=s2:=by rw[runN_add,h1,h2]
theorem clos_of{P:Program}{f K:Nat}{R:List Nat}(h:runN P K ([f],[])=([],R)):P.closure f=R.reverse:=by
 unfold Program.closure;rw[←via_more P _ [f] [] K (by rw[wtF_nil];simp),via_run,h];cases (1+(P.funcs.toList.map fun g=>(P.leadsTo g).length+1).sum)<;>simp[Program.closureVia]
theorem inpl_of{P:Program}{f:Nat}{L:List Nat}{l:List String}(h:P.closure f=L)(k:(L.filterMap fun g=>(P.funcs[g]?).bind fun fn=>if fn.ours||fn.body.isNone||fn.name== "runtime.NumGoroutine" then some fn.name else none)=l):(l==P.inPlace f)=true:=by
 unfold Program.inPlace;rw[h,k];exact beq_self_eq_true l
theorem unf_of{P:Program}{f:Nat}{L:List Nat}(h:P.closure f=L)(k:(L.any fun g=>(P.funcs[g]?).any fun fn=>match fn.body with |some c=>c.unfollowed |none=>entryCalls fn)=true):P.unfollowed f=true:=by
 unfold Program.unfollowed;rw[h];exact k
theorem rec_of{P:Program}{f:Nat}(h:P.unfollowed f=true):P.recurses f=true:=by
 unfold Program.recurses;rw[h];rfl
theorem nam_of{P:Program}{f:Nat}{L:List Nat}{l:List String}(h:P.closure f=L)(k:((((L.flatMap fun g=>((P.funcs[g]?).bind (·.body)).elim [] Code.globalsNamed).eraseDups).filterMap (fun g=>(P.globals[g]?).map (·.name))++
   L.filterMap fun g=>(P.funcs[g]?).bind fun fn=>if fn.body.isNone then entryReads.lookup fn.name else none).eraseDups)=l):(l==P.varsNamed f)=true:=by
 unfold Program.varsNamed;rw[h,k];exact beq_self_eq_true l
theorem goes_of{P:Program}(h:P.funcs.any Func.goes=false)(f:Nat):P.goes f=false:=by
 have hm:∀(g:Nat) fn,P.funcs[g]? =some fn→fn.goes=false:=by
  intro g fn hg;obtain⟨hlt,rfl⟩:=fG.1 hg;rw[Array.any_eq_false] at h;exact Bool.eq_false_iff.2 (h g hlt)
 have hc:((P.closure f).any fun g=>(P.funcs[g]?).any Func.goes)=false:=by
  rw[List.any_eq_false];intro g _;cases hg:P.funcs[g]? with
  |none=>simp
  |some fn=>simp[hm g fn hg]
 unfold Program.goes;rw[h,hc,Bool.and_false];rfl
theorem noGo:Tryz.prog.funcs.any Func.goes=false:=by kernel_rfl
theorem goesB{c:OpenClaim}(hs:c.start= .entering):false=c.goesBy Tryz.prog:=by
 unfold OpenClaim.goesBy Program.goesAt Program.goesFrom;rw[hs];cases Tryz.prog.funcNamed c.func with
 |none=>rfl
 |some f=>simp[goes_of noGo f]
theorem mainT:Tryz.prog.mainIs=some (true,"953efbd8b76620dd0dcde23f62a43a7c3da684bc381965d3d554b63dcd91639c".toList):=by kernel_rfl

end Go.Proofs.YtgplgbonlnodeaaGreatDoor
