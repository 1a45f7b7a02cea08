/-
  What a function comes to by plain names, computed in parts: the fuel is enough.
-/
import Derived.Test.YtgplgbonlnodeaaGreatDoorP2
import Derived.JoinedOf
import GoSem.ClaimGoes
import Derived.SevenTiedAt
open Array renaming getElem?_eq_some_iff->gp,getElem?_toList->G6
open Bool renaming eq_false_iff->CB,false_eq_true->lh,false_or->MS
open List renaming contains_cons->alC,getElem?_cons_succ->r7,getElem?_cons_zero->iY,length_append->dF,length_cons->cY,nil_append->eD
open Nat renaming sub_self->wA,zero_add->dD,zero_le->bA
open List renaming length->O
open Option renaming some->Z,none->Y

namespace Go.Proofs.YtgplgbonlnodeaaGreatDoor
open Go.Proofs.Ys
open Go
def nM(P:Program)(fs:List Func)(k:Nat)(seen:List Nat):Nat:=match fs with|[]=>0|g::r=>(if seen.contains k then 0 else(P.leadsTo g).length+1)+nM P r (k+1) seen
theorem Nb(P:Program):∀(f:List Func) (k:Nat),nM P f k []=(f.map λg=>O (P.leadsTo g)+1).sum|[],_=>rfl|g::r,k=>by simp only[nM,Nb P r (k+1)];rfl
theorem Nc(P:Program)(f:Nat)(seen:List Nat):∀(s:List Func) (k:Nat),f<k->nM P s k (f::seen)=nM P s k seen|[],_,_=>rfl|g::r,k,h=>by (have :(f::seen).contains k=seen.contains k:=by rw[alC];have :(k==f)=false:=beq_eq_false_iff_ne.2 (by omega);rw[this,MS]);simp only[nM,this,Nc P f seen r (k+1) (by omega)]
def zC(P:Program):Option Func->Nat|some g=>O (P.leadsTo g)+1|none=>0
theorem Nf(P:Program)(f:Nat)(seen:List Nat)(h:seen.contains f=false):∀(s:List Func) (k:Nat),k<=f-> nM P s k (f::seen)+zC P (s[f-k]?)=nM P s k seen|[],_,_=>by simp[nM,zC]|g::r,k,b=>by by_cases e:k=f;{subst e;(have H:(k::seen).contains k=true:=by simp);simp only[nM,H,if_true,h,lh,if_false,Nc P k seen r (k+1) (by omega),wA,iY,zC];omega};(have H:(f::seen).contains k=seen.contains k:=by rw[alC];have :(k==f)=false:=beq_eq_false_iff_ne.2 e;rw[this,MS]);(have a:f-k=(f-(k+1))+1:=by omega);have i:=Nf P f seen h r (k+1) (by omega);simp only[nM,H];rw[a,r7];omega
theorem Hu(P:Program):∀(n:Nat) (t seen:List Nat) (m:Nat),O t+nM P P.funcs.toList 0 seen<=n->P.closureVia (n+m) t seen=P.closureVia n t seen| 0,[],seen,m,_=>by cases m<;>simp[Program.closureVia]| 0,f::t,seen,m,h=>by simp at h|n+1,[],seen,m,_=>by (have :n+1+m=(n+m)+1:=by omega);rw[this];simp[Program.closureVia]|n+1,f::t,seen,m,h=>by (have :n+1+m=(n+m)+1:=by omega);rw[this];simp only[Program.closureVia];simp only[cY] at h;cases c:seen.contains f with|true=>simp only[if_true];exact Hu P n t seen m (by omega)|false=>simp only[lh,if_false];refine Hu P n _ _ m ?_;have a:=Nf P f seen c P.funcs.toList 0 (bA _);rw[Nat.sub_zero,G6] at a;cases b:P.funcs[f]? with|none=>rw[b] at a;have H:zC P Y=0:=rfl;rw[H] at a;simp only[Option.elim_none,eD];omega|some g=>rw[b] at a;have H:zC P (Z g)=O (P.leadsTo g)+1:=rfl;rw[H] at a;simp only[Option.elim_some,dF];omega
def runN(P:Program):Nat->List Nat×List Nat->List Nat×List Nat| 0,s=>s|_+1,([],seen)=>([],seen)|n+1,(f::t,seen)=>if seen.contains f then runN P n (t,seen) else runN P n ((P.funcs[f]?).elim [] P.leadsTo++t,f::seen)
theorem Hv(P:Program):∀(n m:Nat) (t seen:List Nat),P.closureVia (m+n) t seen=P.closureVia m (runN P n (t,seen)).1 (runN P n (t,seen)).2| 0,m,t,seen=>rfl|n+1,m,[],seen=>by have :m+(n+1)=(m+n)+1:=rfl;rw[this];cases m<;>simp[Program.closureVia,runN]|n+1,m,f::t,seen=>by have :m+(n+1)=(m+n)+1:=rfl;rw[this];simp only[Program.closureVia,runN];split;{exact Hv P n m _ _};exact Hv P n m _ _
theorem runN_add(P:Program):∀(a b:Nat) (s:List Nat×List Nat),runN P (a+b) s=runN P b (runN P a s)| 0,b,s=>by rw[dD];rfl|a+1,b,([],seen)=>by (have :a+1+b=(a+b)+1:=by omega);rw[this];simp only[runN];cases b<;>simp[runN]|a+1,b,(f::t,seen)=>by (have :a+1+b=(a+b)+1:=by omega);rw[this];simp only[runN];split;{exact runN_add P a b _};exact runN_add P a b _
variable{L:List Nat}{l:List String}{f:Nat}{P:Program}
theorem Ng{a b:Nat}{s s1 S:List Nat×List Nat}(h:runN P a s=s1)(H:runN P b s1=S):runN P (a+b) s=S:=by rw[runN_add,h,H]
theorem WR{K:Nat}{R:List Nat}(h:runN P K ([f],[])=([],R)):P.closure f=R.reverse:=by unfold Program.closure;rw[<-Hu P _ [f] [] K (by rw[Nb];simp),Hv,h];cases (1+(P.funcs.toList.map λg=>O (P.leadsTo g)+1).sum)<;>simp[Program.closureVia]
theorem WS(h:P.closure f=L)(k:(L.filterMap λg=>(P.funcs[g]?).bind λfn=>if fn.ours||fn.body.isNone||fn.name== "runtime.NumGoroutine" then Z fn.name else Y)=l):(l==P.inPlace f)=true:=by unfold Program.inPlace;rw[h,k];exact beq_self_eq_true l
theorem WT(h:P.closure f=L)(k:(L.any λg=>(P.funcs[g]?).any λfn=>match fn.body with |some c=>c.unfollowed |none=>entryCalls fn)=true):P.unfollowed f=true:=by unfold Program.unfollowed;rw[h];exact k
theorem WU(h:P.unfollowed f=true):P.recurses f=true:=by unfold Program.recurses;rw[h];rfl
theorem WV(h:P.closure f=L)(k:((((L.flatMap λg=>((P.funcs[g]?).bind (·.body)).elim [] Code.globalsNamed).eraseDups).filterMap (λg=>(P.globals[g]?).map (·.name))++ L.filterMap λg=>(P.funcs[g]?).bind λfn=>if fn.body.isNone then entryReads.lookup fn.name else Y).eraseDups)=l):(l==P.varsNamed f)=true:=by unfold Program.varsNamed;rw[h,k];exact beq_self_eq_true l
theorem WW(h:P.funcs.any Func.goes=false)(f:Nat):P.goes f=false:=by
 have m:∀(g:Nat) n,P.funcs[g]? =Z n->n.goes=false:=by intro g n H;obtain⟨l,rfl⟩:=gp.1 H;rw[Array.any_eq_false] at h;exact CB.2 (h g l)
 have c:((P.closure f).any λg=>(P.funcs[g]?).any Func.goes)=false:=by rw[List.any_eq_false];intro g _;cases H:P.funcs[g]? with|none=>simp|some n=>simp[m g n H]
 unfold Program.goes;rw[h,c,Bool.and_false];rfl
theorem WX:Tryz.prog.funcs.any Func.goes=false:=by kernel_rfl
theorem WY{c:OpenClaim}(s:c.start= .entering):false=c.goesBy Tryz.prog:=by unfold OpenClaim.goesBy Program.goesAt Program.goesFrom;rw[s];cases Tryz.prog.funcNamed c.func with|none=>rfl|some f=>simp[WW WX f]
theorem WZ:Tryz.prog.mainIs=Z (true,"953efbd8b76620dd0dcde23f62a43a7c3da684bc381965d3d554b63dcd91639c".toList):=by kernel_rfl

end Go.Proofs.YtgplgbonlnodeaaGreatDoor
