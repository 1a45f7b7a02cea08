/-
  What a function comes to by plain names, computed in parts: the fuel is enough.
-/
import Derived.Test.YtgplgbonlnodeaaGreatDoorP2
import Derived.JoinedOf
import GoSem.ClaimGoes
import Derived.SevenTiedAt
open Array renaming getElem?_eq_some_iff→gz,getElem?_toList→CO
open Bool renaming eq_false_iff→FR,false_eq_true→ob,false_or→Pt
open List renaming contains_cons→amp,getElem?_cons_succ→vN,getElem?_cons_zero→ew,length_append→iq,length_cons→dZ,nil_append→jm
open Nat renaming sub_self→xE,zero_add→eS,zero_le→b9
namespace Go.Proofs.YtgplgbonlnodeaaGreatDoor
open Go
def qH(P:Program)(fs:List Func)(k:Nat)(seen:List Nat):Nat:=
 match fs with
 |[]=>0
 |g::r=>(if seen.contains k then 0 else(P.leadsTo g).length+1)+qH P r (k+1) seen
theorem PR(P:Program):∀(fs:List Func) (k:Nat),qH P fs k []=(fs.map fun g=>(P.leadsTo g).length+1).sum
 |[],_=>rfl
 |g::r,k=>by simp only[qH,PR P r (k+1)];rfl
theorem PS(P:Program)(f:Nat)(seen:List Nat):∀(fs:List Func) (k:Nat),f<k→qH P fs k (f::seen)=qH P fs k seen
 |[],_,_=>rfl
 |g::r,k,h=>by
  have :(f::seen).contains k=seen.contains k:=by
   rw[amp];have :(k==f)=false:=beq_eq_false_iff_ne.2 (by omega);rw[this,Pt]
  simp only[qH,this,PS P f seen r (k+1) (by omega)]
def CU(P:Program):Option Func→Nat
 |some g=>(P.leadsTo g).length+1
 |none=>0
theorem PT(P:Program)(f:Nat)(seen:List Nat)(h:seen.contains f=false):∀(fs:List Func) (k:Nat),k≤f→
    qH P fs k (f::seen)+CU P (fs[f-k]?)=qH P fs k seen
 |[],_,_=>by simp[qH,CU]
 |g::r,k,hk=>by
  by_cases e:k=f
  ·subst e;have h1:(k::seen).contains k=true:=by simp
   simp only[qH,h1,if_true,h,ob,if_false,PS P k seen r (k+1) (by omega),xE,ew,CU];omega
  ·have h1:(f::seen).contains k=seen.contains k:=by
    rw[amp];have :(k==f)=false:=beq_eq_false_iff_ne.2 e;rw[this,Pt]
   have h2:f-k=(f-(k+1))+1:=by omega
   have ih:=PT P f seen h r (k+1) (by omega);simp only[qH,h1];rw[h2,vN];omega
theorem Kp(P:Program):∀(n:Nat) (todo seen:List Nat) (m:Nat),todo.length+qH P P.funcs.toList 0 seen≤n→P.closureVia (n+m) todo seen=P.closureVia n todo seen
 | 0,[],seen,m,_=>by cases m<;>simp[Program.closureVia]
 | 0,f::todo,seen,m,h=>by simp at h
 |n+1,[],seen,m,_=>by
  have :n+1+m=(n+m)+1:=by omega
  rw[this];simp[Program.closureVia]
 |n+1,f::todo,seen,m,h=>by
  have :n+1+m=(n+m)+1:=by omega
  rw[this];simp only[Program.closureVia];simp only[dZ] at h;cases hc:seen.contains f with
  |true=>
   simp only[if_true];exact Kp P n todo seen m (by omega)
  |false=>
   simp only[ob,if_false];refine Kp P n _ _ m ?_;have ha:=PT P f seen hc P.funcs.toList 0 (b9 _);rw[Nat.sub_zero,CO] at ha;cases hf:P.funcs[f]? with
   |none=>
    rw[hf] at ha;have h9:CU P none=0:=rfl;rw[h9] at ha;simp only[Option.elim_none,jm];omega
   |some g=>
    rw[hf] at ha;have h9:CU P (some g)=(P.leadsTo g).length+1:=rfl;rw[h9] at ha;simp only[Option.elim_some,iq];omega
def runN(P:Program):Nat→List Nat×List Nat→List Nat×List Nat
 | 0,s=>s
 |_+1,([],seen)=>([],seen)
 |n+1,(f::todo,seen)=>if seen.contains f then runN P n (todo,seen) else runN P n ((P.funcs[f]?).elim [] P.leadsTo++todo,f::seen)
theorem Kq(P:Program):∀(n m:Nat) (todo seen:List Nat),P.closureVia (m+n) todo seen=P.closureVia m (runN P n (todo,seen)).1 (runN P n (todo,seen)).2
 | 0,m,todo,seen=>rfl
 |n+1,m,[],seen=>by
  have :m+(n+1)=(m+n)+1:=rfl;rw[this];cases m<;>simp[Program.closureVia,runN]
 |n+1,m,f::todo,seen=>by
  have :m+(n+1)=(m+n)+1:=rfl;rw[this];simp only[Program.closureVia,runN];split
  ·exact Kq P n m _ _
  ·exact Kq P n m _ _
theorem runN_add(P:Program):∀(a b:Nat) (s:List Nat×List Nat),runN P (a+b) s=runN P b (runN P a s)
 | 0,b,s=>by rw[eS];rfl
 |a+1,b,([],seen)=>by
  have :a+1+b=(a+b)+1:=by omega
  rw[this];simp only[runN];cases b<;>simp[runN]
 |a+1,b,(f::todo,seen)=>by
  have :a+1+b=(a+b)+1:=by omega
  rw[this];simp only[runN];split
  ·exact runN_add P a b _
  ·exact runN_add P a b _
theorem F7{P:Program}{a b:Nat}{s s1 s2:List Nat×List Nat}(h1:runN P a s=s1)(h2:runN P b s1=s2):runN P (a+b) s=s2:=by rw[runN_add,h1,h2]
theorem PU{P:Program}{f K:Nat}{R:List Nat}(h:runN P K ([f],[])=([],R)):P.closure f=R.reverse:=by
 unfold Program.closure;rw[←Kp P _ [f] [] K (by rw[PR];simp),Kq,h];cases (1+(P.funcs.toList.map fun g=>(P.leadsTo g).length+1).sum)<;>simp[Program.closureVia]
theorem PV{P:Program}{f:Nat}{L:List Nat}{l:List String}(h:P.closure f=L)(k:(L.filterMap fun g=>(P.funcs[g]?).bind fun fn=>if fn.ours||fn.body.isNone||fn.name== "runtime.NumGoroutine" then some fn.name else none)=l):(l==P.inPlace f)=true:=by
 unfold Program.inPlace;rw[h,k];exact beq_self_eq_true l
theorem PW{P:Program}{f:Nat}{L:List Nat}(h:P.closure f=L)(k:(L.any fun g=>(P.funcs[g]?).any fun fn=>match fn.body with |some c=>c.unfollowed |none=>entryCalls fn)=true):P.unfollowed f=true:=by
 unfold Program.unfollowed;rw[h];exact k
theorem PX{P:Program}{f:Nat}(h:P.unfollowed f=true):P.recurses f=true:=by
 unfold Program.recurses;rw[h];rfl
theorem PY{P:Program}{f:Nat}{L:List Nat}{l:List String}(h:P.closure f=L)(k:((((L.flatMap fun g=>((P.funcs[g]?).bind (·.body)).elim [] Code.globalsNamed).eraseDups).filterMap (fun g=>(P.globals[g]?).map (·.name))++
   L.filterMap fun g=>(P.funcs[g]?).bind fun fn=>if fn.body.isNone then entryReads.lookup fn.name else none).eraseDups)=l):(l==P.varsNamed f)=true:=by
 unfold Program.varsNamed;rw[h,k];exact beq_self_eq_true l
theorem YZ{P:Program}(h:P.funcs.any Func.goes=false)(f:Nat):P.goes f=false:=by
 have hm:∀(g:Nat) fn,P.funcs[g]? =some fn→fn.goes=false:=by
  intro g fn hg;obtain⟨ah,rfl⟩:=gz.1 hg;rw[Array.any_eq_false] at h;exact FR.2 (h g ah)
 have hc:((P.closure f).any fun g=>(P.funcs[g]?).any Func.goes)=false:=by
  rw[List.any_eq_false];intro g _;cases hg:P.funcs[g]? with
  |none=>simp
  |some fn=>simp[hm g fn hg]
 unfold Program.goes;rw[h,hc,Bool.and_false];rfl
theorem Y0:Tryz.prog.funcs.any Func.goes=false:=by kernel_rfl
theorem PZ{c:OpenClaim}(hs:c.start= .entering):false=c.goesBy Tryz.prog:=by
 unfold OpenClaim.goesBy Program.goesAt Program.goesFrom;rw[hs];cases Tryz.prog.funcNamed c.func with
 |none=>rfl
 |some f=>simp[YZ Y0 f]
theorem P0:Tryz.prog.mainIs=some (true,"953efbd8b76620dd0dcde23f62a43a7c3da684bc381965d3d554b63dcd91639c".toList):=by kernel_rfl
end Go.Proofs.YtgplgbonlnodeaaGreatDoor
