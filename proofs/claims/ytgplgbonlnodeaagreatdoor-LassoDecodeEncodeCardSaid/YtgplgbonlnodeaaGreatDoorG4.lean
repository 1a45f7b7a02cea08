/-
  A value-level evaluator for Go functions; the functions of this cut by it; plain laws. Text G4.
-/
import Derived.Test.YtgplgbonlnodeaaGreatDoorG3
import Derived.Test.YtgplgbonlnodeaaGreatDoorG1
import Derived.Carry
import Derived.ChangeSlices
import Derived.ChangeMaps5
import Derived.RowKit
import Derived.SizedLaws
import Derived.Handed
open Array renaming getD_eq_getD_getElem?→bN,getElem?_eq_some_iff→gz,replicate→nA
open Bool renaming and_eq_true→bQ,and_self→Kh
open Classical renaming byContradiction→qD
open List renaming all_eq_true→gI,append_assoc→oc,append_eq_nil_iff→xJ,append_nil→lA,cons_append→jN,drop_drop→CP,drop_length→Ki,getD_eq_getElem?_getD→fE,getElem?_append_left→cH,getElem?_append_right→eL,getElem?_cons_zero→ew,getElem?_eq_getElem→aA,getElem?_eq_some_iff→az,getElem?_map→cP,getElem?_of_mem→eC,getElem_mem→bO,length_append→iq,length_drop→vR,length_dropLast→amJ,length_map→cx,length_nil→fW,length_singleton→xL,map→vO,map_congr_left→sV,mem_append→cW,mem_cons→cN,mem_cons_of_mem→jD,mem_cons_self→pa,mem_map→dz,mem_map_of_mem→Kc,mem_of_mem_drop→sU,mem_of_mem_take→j8,mem_singleton→mH,nodup_append→YL,nodup_cons→vS,nodup_nil→Kg,not_mem_nil→mG,range→ku,singleton_append→amI,take_append_drop→xH,take_of_length_le→jC,take_zero→vT
open Nat renaming le_refl→aV,le_trans→gA,mul_le_mul_right→kz,zero_le→b9
open Option renaming map_eq_some_iff→au,map_some→eA
open Option.some renaming inj→oi,injEq→bI
open Prod renaming mk→lB
namespace Go.Vs
structure Cf where
 bg:List Nat
 adj:List Nat
 rg:List (Nat×Nat)
 fU:Nat→List D→List D→Hp→Option (List (List D))
 ap:List Nat
 tk:List (Nat×Nat×Nat×Nat)
 nl:List Nat
 m1:List Nat:=[]
def gm(x:Nat):List Nat→List Nat
 |[]=>[x]
 |y::l=>if x<y then x::y::l else if x=y then y::l else y::gm x l
def rm(a b:List Nat):List Nat:=b.foldr gm a
def SW(ops:List SO)(out:List Nat):List Nat:=ops.foldr (fun o l=>rm (match o.dst with |some t=>l.filter (fun x=>!Nat.beq x t) |none=>l) o.uses) out
def HS:SC→List Nat
 | .exit i=>[i]
 | .seq a b | .cond _ a b | .mJ _ _ _ _ a b=>HS a++HS b
 | .block _ b | .loop _ b | .scope b | .loc b | .mI b=>HS b
 |_=>[]
def HT:SC→Bool
 | .ret=>true
 | .seq a b | .cond _ a b | .mJ _ _ _ _ a b=>HT a||HT b
 | .block _ b | .loop _ b | .scope b | .loc b | .mI b=>HT b
 |_=>false
def MF(id:Nat):List (Nat×List Nat)→List Nat
 |[]=>[]
 |(i,l)::r=>if i=id then l else MF id r
def eV(fin:List Nat):SC→List (Nat×List Nat)→List Nat→List Nat×SC
 | .skip,_,out=>(out,.skip)
 | .region _ ops,_,out=>(SW ops out,.region out ops)
 | .draw _ ax ops,_,out=>(SW ops out,.draw out ax ops)
 | .seq a b,ex,out=>
  match eV fin b ex out with
  |(l1,b')=>match eV fin a ex l1 with
   |(l0,a')=>(l0,.seq a' b')
 | .cond c a b,ex,out=>
  match eV fin a ex out,eV fin b ex out with
  |(la,a'),(lb,b')=>(rm (rm la lb) c.slots,.cond c a' b')
 | .block id b,ex,out=>
  match eV fin b ((id,out)::ex) out with
  |(l,b')=>(l,.block id b')
 | .loop _ b,ex,_=>
  match eV fin b ex [] with
  |(l1,_)=>match eV fin b ex l1 with
   |(l2,b')=>(rm l1 l2,.loop (rm l1 l2) b')
 | .mJ f gn g ps a b,ex,out=>
  match eV [] b [] [] with
  |(l1,b')=>match eV [] a [] l1 with
   |(l0,a')=>(rm (rm (rm (rm out (l0.filter fun x=>!ps.contains x)) ((HS b).flatMap fun i=>MF i ex)) g.slots) (if HT b then fin else[]),.mJ f gn g ps a' b')
 | .tok s e z,_,out=>(rm out [s],.tok s e z)
 | .tokb s o e z,_,out=>(rm out [s],.tokb s o e z)
 | .stuck,_,_=>([],.stuck)
 | .mI b,ex,out=>match eV fin b ex out with |(l,b')=>(l,.mI b')
 | .scope b,ex,out=>match eV fin b ex out with |(l,b')=>(l,.scope b')
 | .loc b,ex,out=>match eV fin b ex out with |(l,b')=>(l,.loc b')
 | .exit id,ex,_=>(MF id ex,.exit id)
 | .ret,_,_=>(fin,.ret)
def D7(p:Op→Bool):Code→Bool
 | .region _ ops _=>ops.toList.any fun o=>p o.op
 | .seq a b | .cond _ a b | .rangeFunc _ _ a b=>D7 p a||D7 p b
 | .block _ b | .loop b | .scope b=>D7 p b
 |_=>false
def adk:Op→Bool
 | .call c=>match c.callee with
  | .builtin .append=>true
  |_=>false
 |_=>false
def adl:Op→Bool
 | .alloc _ | .box _ _ | .buildSlice _ _ _ | .makeSlice _ _ _=>true
 | .call c=>match c.callee with
  | .builtin .len=>false
  | .builtin .cap=>false
  |_=>true
 |_=>false
def SX(cf:Cf)(fi:Nat)(o:Oper):SO:=
 ⟨none,match o.op with
  | .buildSlice _ _ _=>if cf.bg.contains fi then .bsliceG 0 0 0 .iQ [] else .stuck
  | .call c=>match c.callee with
   | .builtin .append=>if cf.ap.contains fi then .append 0 0 0 (.t 0) (.t 0) else .appendg 0 0 0 (.t 0) (.t 0)
   |_=>.stuck
  |_=>.stuck,none⟩
def HU(nl:Bool)(b:Code)(x:SC):SC:=if !nl&&D7 adl b&& !D7 adk b then .loc x else x
def SY(fi:Nat):List (Nat×Nat×Nat×Nat)→Option (Nat×Nat×Nat)
 |[]=>none
 |(i,x)::r=>if i=fi then some x else SY fi r
def AZ(fi:Nat):List (Nat×Nat)→Option Nat
 |[]=>none
 |(i,x)::r=>if i=fi then some x else AZ fi r
def MG:Op→Bool
 | .move _ | .assign _ | .pick _ _ _ | .build _ _ | .nilCheck _ | .binOp _ _ _ _ _ | .unOp _ _ _ | .makeInterface _ _ | .makeFunc _ _ _ | .slice _ _ _ _ _ | .fieldAddr _ _ _ | .field _ _ _ | .indexAddr _ _ _ | .index _ _ _ | .extract _ _=>true
 | .call c=>match c.callee with
  | .builtin .len=>true
  | .builtin .cap=>true
  |_=>false
 |_=>false
def MH(ms:List Nat)(i:Nat):Nat→List Oper→List (Nat×Nat)
 |_,[]=>[]
 |j,o::r=>if decide (i≤j)||MG o.op||rel ms i j then(if decide (i≤j) then[] else MH ms i (j+1) r) else(j,i)::MH ms i (j+1) r
def HV(ms:List Nat)(ops:List Oper):Nat→List Oper→List (Nat×Nat)
 |_,[]=>[]
 |i,o::r=>if MG o.op then HV ms ops (i+1) r else MH ms i 0 ops++HV ms ops (i+1) r
def MI:Nat→List Oper→List Nat
 |_,[]=>[]
 |i,o::r=>if Ha o&&o.guard.isNone&&(lM o).isEmpty then i::MI (i+1) r else MI (i+1) r
def ndO(ops:List Oper)(j:Nat):Bool:=match ops[j]? with
 |some o=>!MG o.op
 |none=>false
def ado(least:Nat)(ms:List Nat)(ops:List Oper)(c:List Nat):List (Nat×Nat):=
 if decide (least≤c.length)&&c.all (fun a=>Du ms (c.map fun i=>(1000000+i,0)) (ndO ops) a 0 ops) then(c.map fun i=>(1000000+i,0))++(HV ms ops 0 ops).filter fun p=>!c.contains p.2
 else HV ms ops 0 ops
def adp(least:Nat)(ms:List Nat)(ops:List Oper):List (Nat×Nat):=ado least ms ops (MI 0 ops)
def oM(cf:Cf)(fi:Nat):Code→SC
 | .skip=>.skip
 | .region _ ops draw=>if draw then .draw [] (adp (if cf.m1.contains fi then 1 else 2) (Ds ops.toList []) ops.toList) (ops.toList.map (SX cf fi)) else .region [] (ops.toList.map (SX cf fi))
 | .seq a b=>.seq (oM cf fi a) (oM cf fi b)
 | .cond _ a b=>.cond (.t 0) (oM cf fi a) (oM cf fi b)
 | .block id b=>.block id (oM cf fi b)
 | .loop b=>match SY fi cf.tk with
  |some (s,e,z)=>.seq (.tok s e z) (.loop [] (.loc (oM cf fi b)))
  |none=>.loop [] (HU (cf.nl.contains fi) b (oM cf fi b))
 | .exit id=>.exit id
 | .scope b=>.scope (oM cf fi b)
 | .ret=>.ret
 | .rangeFunc _ ps a b=>match AZ fi cf.rg with
  |some f=>.mJ f (cf.fU f) (.t 0) ps.toList (oM cf fi a) (HU (cf.nl.contains fi) b (oM cf fi b))
  |none=>.stuck
 | .label _=>.skip
 |_=>.stuck
theorem SZ:∀(sc:SC) (fin:List Nat) (ex:List (Nat×List Nat)) (out:List Nat),(eV fin sc ex out).2.cZ=sc.cZ:=by
 intro sc
 induction sc with
 |seq a b fI fJ=>intro fin ex out;show((eV fin a ex (eV fin b ex out).1).2.cZ&&(eV fin b ex out).2.cZ)=_;rw[fI,fJ];rfl
 |cond c a b fI fJ=>intro fin ex out;show((eV fin a ex out).2.cZ&&(eV fin b ex out).2.cZ)=_;rw[fI,fJ];rfl
 |block id b ih=>intro fin ex out;show(eV fin b ((id,out)::ex) out).2.cZ=_;rw[ih];rfl
 |loop k b ih=>intro fin ex out;show(eV fin b ex (eV fin b ex []).1).2.cZ=_;rw[ih];rfl
 |mI b ih=>intro fin ex out;show(eV fin b ex out).2.cZ=_;rw[ih];rfl
 |scope b ih=>intro fin ex out;show(eV fin b ex out).2.cZ=_;rw[ih];rfl
 |loc b ih=>intro fin ex out;show(eV fin b ex out).2.cZ=_;rw[ih];rfl
 |_=>intros;rfl
theorem adq{P:Program}{nt:Nat}{a b a' b':SC}{x y:Code}(ha:dN P nt a x=some a')(hb:dN P nt b y=some b'):dN P nt (.seq a b) (.seq x y)=some (.seq a' b'):=by
 cases a
 case tok=>cases x<;>simp[dN] at ha
 case tokb=>cases x<;>simp[dN] at ha
 all_goals (show(match dN P nt _ x,dN P nt b y with |some a',some b'=>some (SC.seq a' b') |_,_=>none)=_;rw[ha,hb])
theorem ads{P:Program}{nt:Nat}(sk:SC)(c:Code):∀sc,dN P nt sk c=some sc→∀(fin:List Nat) (ex:List (Nat×List Nat)) (out:List Nat),∃sk',dN P nt sk' c=some (eV fin sc ex out).2:=by
 fun_induction dN P nt sk c
 all_goals (intro sc h fin ex out)
 all_goals try (cases h;done)
 case case1 ih=>
  obtain⟨b',hb,rfl⟩:=au.1 h;obtain⟨k,hk⟩:=ih b' hb fin ex out;exact⟨.loc k,by simp only[dN,hk];rfl⟩
 case case2=>cases h;exact⟨.skip,rfl⟩
 case case3=>cases h;exact⟨.skip,rfl⟩
 case case4 keep hs id ops hn=>
  obtain⟨sl,dk,rfl⟩:=au.1 h;exact⟨.region out hs,by simp only[dN,hn,dk,if_true];rfl⟩
 case case6 keep ax hs id ops sl dk hn=>
  cases h;exact⟨.draw out ax hs,by simp only[dN,dk,hn,if_true];rfl⟩
 case case9 f gen g0 ps0 a b g ps x y g' a' b' hb ha hg hn fI fJ=>
  cases h;obtain⟨kb,tE⟩:=fJ b' hb [] [] [];obtain⟨ka,D8⟩:=fI a' ha [] [] (eV [] b' [] []).1;refine⟨.mJ f gen (.t 0) [] ka kb,?_⟩;have h1:((eV [] a' [] (eV [] b' [] []).1).2.cZ&&(eV [] b' [] []).2.cZ&&ps.toList.all fun p=>decide (p<nt))=true:=by rw[SZ,SZ];exact hn
  simp only[dN,hg,D8,tE,h1,if_true];rfl
 case case12 s e z b c hc ih=>
  obtain⟨b',hb,rfl⟩:=au.1 h;obtain⟨k,hk⟩:=ih b' hb fin ex out;exact⟨.seq (.tok s e z) k,by simp only[dN,hk,if_pos hc];rfl⟩
 case case14 s off e z b c hc ih=>
  obtain⟨b',hb,rfl⟩:=au.1 h;obtain⟨k,hk⟩:=ih b' hb fin ex out;exact⟨.seq (.tokb s off e z) k,by simp only[dN,hk,if_pos hc];rfl⟩
 case case16 a b x y n1 n2 a' b' hb ha fI fJ=>
  cases h;obtain⟨kb,tE⟩:=fJ b' hb fin ex out;obtain⟨ka,D8⟩:=fI a' ha fin ex (eV fin b' ex out).1;exact⟨.seq ka kb,adq D8 tE⟩
 case case18 c0 a b c x y g' a' b' hb ha hg fI fJ=>
  cases h;obtain⟨kb,tE⟩:=fJ b' hb fin ex out;obtain⟨ka,D8⟩:=fI a' ha fin ex out;exact⟨.cond (.t 0) ka kb,by simp only[dN,hg,D8,tE];rfl⟩
 case case20 id0 b id x ih=>
  obtain⟨b',hb,rfl⟩:=au.1 h;obtain⟨k,hk⟩:=ih b' hb fin ((id,out)::ex) out;exact⟨.block 0 k,by simp only[dN,hk];rfl⟩
 case case21 keep b x ih=>
  obtain⟨b',hb,rfl⟩:=au.1 h;obtain⟨k,hk⟩:=ih b' hb fin ex (eV fin b' ex []).1;exact⟨.loop (rm (eV fin b' ex []).1 (eV fin b' ex (eV fin b' ex []).1).1) k,by simp only[dN,hk];rfl⟩
 case case22 b x ih=>
  obtain⟨b',hb,rfl⟩:=au.1 h;obtain⟨k,hk⟩:=ih b' hb fin ex out;exact⟨.scope k,by simp only[dN,hk];rfl⟩
 case case23=>cases h;exact⟨.exit 0,rfl⟩
 case case24=>cases h;exact⟨.ret,rfl⟩
 case case25 ih=>
  obtain⟨b',hb,rfl⟩:=au.1 h;obtain⟨k,hk⟩:=ih b' hb fin ex out;exact⟨.mI k,by simp only[dN,hk];rfl⟩
 case case26=>cases h;exact⟨.stuck,by simp only[dN];rfl⟩
def A0(P:Program)(cf:Cf)(fi:Nat)(f:Func):Option FC:=
 if f.name== "runtime.NumGoroutine" then none else
 match f.body,aP (uZ P) f.results.toList with
 |some c,some res=>if f.params.size+f.nfree≤f.ntmps then(match dN P f.ntmps (oM cf fi c) c with
  |some b=>some ⟨f.ntmps,f.params.size+f.nfree,res,(eV (res.map fun | .t i=>i | .cell i _=>i) b [] (res.map fun | .t i=>i | .cell i _=>i)).2,!cf.adj.contains fi,none⟩
  |none=>none) else none
 |_,_=>none
theorem adw{P:Program}{cf:Cf}{fi:Nat}{f:Func}{fc:FC}(hf:P.funcs[fi]? =some f)(h:A0 P cf fi f=some fc):FOk0 P fi fc:=by
 unfold A0 at h;split at h
 ·cases h
 ·rename_i hn;split at h
  ·rename_i c res hb tD;split at h
   ·rename_i hle;split at h
    ·rename_i b MJ;cases h;exact⟨f,c,hf,by simpa using hn,hb,rfl,hle,tD,ads _ _ _ MJ _ _ _⟩
    ·cases h
   ·cases h
  ·cases h
variable {c : bC} {G : Nat → Option (List PD)}
def sv(c:bC)(G:Nat→Option (List PD))(keep:List Nat)(ops:List SO)(env:Env)(H:Hp):Option (Out×St):=
 match kc c G ops env H with
 |some (.ok env H)=>some (.norm,⟨env.keep keep,H⟩)
 |some (.bR d env H)=>some (.bR d,⟨env,H⟩)
 |none=>none
def opsV(c:bC)(G:Nat→Option (List PD))(keep:List Nat)(x:Option (bt×Hp))(dst:Option Nat)(r:List SO)(env:Env):Option (Out×St):=
 match x with
 |some (.val d,H')=>sv c G keep r (put dst d env) H'
 |some (.bR d,H')=>some (.bR d,⟨env,H'⟩)
 |none=>none
def A2(c:bC)(G:Nat→Option (List PD))(keep:List Nat)(g:Option Bool)(o:SO)(r:List SO)(env:Env)(H:Hp):Option (Out×St):=
 match g with
 |some true=>opsV c G keep (cF c G env H o.k) o.dst r env
 |some false=>sv c G keep r (put o.dst .undef env) H
 |none=>none
@[simp] theorem anl(it:It)(keep:List Nat)(ops:List SO)(env:Env)(H:Hp):ay c G it (.region keep ops) ⟨env,H⟩=sv c G keep ops env H:=rfl
@[simp] theorem anm(keep:List Nat)(env:Env)(H:Hp):sv c G keep [] env H=some (.norm,⟨env.keep keep,H⟩):=rfl
theorem S3(keep:List Nat)(o:SO)(r:List SO)(env:Env)(H:Hp):sv c G keep (o::r) env H=A2 c G keep (fF env o.g) o r env H:=by
 unfold sv A2;simp only[kc];cases fF env o.g with
 |none=>rfl
 |some b=>
  cases b with
  |false=>rfl
  |true=>
   unfold opsV;cases cF c G env H o.k with
   |none=>rfl
   |some x=>
    obtain⟨y,H'⟩:=x;cases y<;>rfl
@[simp] theorem ann(keep:List Nat)(dst:Option Nat)(k:SK)(r:List SO)(env:Env)(H:Hp):sv c G keep (⟨dst,k,none⟩::r) env H=opsV c G keep (cF c G env H k) dst r env:=S3 ..
@[simp] theorem ano(keep:List Nat)(dst:Option Nat)(k:SK)(g:Nat×Bool)(r:List SO)(env:Env)(H:Hp):sv c G keep (⟨dst,k,some g⟩::r) env H=A2 c G keep (fF env (some g)) ⟨dst,k,some g⟩ r env H:=S3 ..
@[simp] theorem anp(keep:List Nat)(d:D)(H':Hp)(dst:Option Nat)(r:List SO)(env:Env):opsV c G keep (some (.val d,H')) dst r env=sv c G keep r (put dst d env) H':=rfl
@[simp] theorem anq(keep:List Nat)(d:D)(H':Hp)(dst:Option Nat)(r:List SO)(env:Env):opsV c G keep (some (.bR d,H')) dst r env=some (.bR d,⟨env,H'⟩):=rfl
@[simp] theorem anr(keep:List Nat)(o:SO)(r:List SO)(env:Env)(H:Hp):A2 c G keep (some true) o r env H=opsV c G keep (cF c G env H o.k) o.dst r env:=rfl
@[simp] theorem ans(keep:List Nat)(o:SO)(r:List SO)(env:Env)(H:Hp):A2 c G keep (some false) o r env H=sv c G keep r (put o.dst .undef env) H:=rfl
def MK(c:bC)(G:Nat→Option (List PD))(ax:List (Nat×Nat))(un:Env)(d:D)(H':Hp)(o:SO)(r:List SO)(env:Env)(H:Hp)(acc:List (Nat×Nat)):Option (Out×St):=
 match ox c G ax acc.length (acc.length+1) o.dst.toList r (put o.dst .undef env) H with
 |some cs=>if um ax (acc++(0,0)::cs)&&Gb ax (acc++(0,0)::cs) acc.length then some (.bR d,⟨un,H'⟩) else none
 |none=>none
def mm(c:bC)(G:Nat→Option (List PD))(keep:List Nat)(ax:List (Nat×Nat))(un:Env)(ops:List SO)(env:Env)(H:Hp)(acc:List (Nat×Nat)):Option (Out×St):=
 match gW c G ops env H with
 |some (env,H,cs)=>if um ax (acc++cs) then some (.norm,⟨env.keep keep,H⟩) else none
 |none=>match jo c G ax acc.length ops env H with
  |some (d,H',cs,k)=>if um ax (acc++cs)&&Gb ax (acc++cs) k then some (.bR d,⟨un,H'⟩) else none
  |none=>none
def yK(c:bC)(G:Nat→Option (List PD))(keep:List Nat)(ax:List (Nat×Nat))(un:Env)(x:Option (bt×Hp))(o:SO)(r:List SO)(env:Env)(H:Hp)(acc:List (Nat×Nat)):Option (Out×St):=
 match x with
 |some (.val d,H')=>mm c G keep ax un r (put o.dst d env) H' (acc++[jP env H H' o.k])
 |some (.bR d,H')=>MK c G ax un d H' o r env H acc
 |none=>none
def yL(c:bC)(G:Nat→Option (List PD))(keep:List Nat)(ax:List (Nat×Nat))(un:Env)(g:Option Bool)(o:SO)(r:List SO)(env:Env)(H:Hp)(acc:List (Nat×Nat)):Option (Out×St):=
 match g with
 |some true=>yK c G keep ax un (cF c G env H o.k) o r env H acc
 |some false=>mm c G keep ax un r (put o.dst .undef env) H (acc++[(0,0)])
 |none=>none
@[simp] theorem ant(it:It)(keep:List Nat)(ax:List (Nat×Nat))(ops:List SO)(env:Env)(H:Hp):ay c G it (.draw keep ax ops) ⟨env,H⟩=mm c G keep ax (xY ops env) ops env H []:=rfl
theorem adx(keep:List Nat)(ax:List (Nat×Nat))(un env:Env)(H:Hp)(acc:List (Nat×Nat)):mm c G keep ax un [] env H acc=if um ax acc then some (.norm,⟨env.keep keep,H⟩) else none:=by
 simp only[mm,gW,lA]
@[simp] theorem anu(keep:List Nat)(ax:List (Nat×Nat))(un env:Env)(H:Hp)(acc:List (Nat×Nat)):mm c G keep ax un [] env H acc=if ax.all (fun p=>!eP (acc.getD p.1 (0,0)) (acc.getD p.2 (0,0)))&&qL acc then some (.norm,⟨env.keep keep,H⟩) else none:=
 adx ..
theorem S4{keep:List Nat}{ax:List (Nat×Nat)}{un:Env}{o:SO}{r:List SO}{env gi:Env}{H H':Hp}{acc:List (Nat×Nat)}{x:Nat×Nat}
    (h1:gW c G (o::r) env H=match gW c G r gi H' with |some (e,h,cs)=>some (e,h,x::cs) |none=>none)
    (h2:∀i,jo c G ax i (o::r) env H=(jo c G ax (i+1) r gi H').map fun y=>(y.1,y.2.1,x::y.2.2.1,y.2.2.2)):
    mm c G keep ax un (o::r) env H acc=mm c G keep ax un r gi H' (acc++[x]):=by
 unfold mm;rw[h1,h2];cases gW c G r gi H' with
 |some z=>obtain⟨e,h,cs⟩:=z;simp only[oc,amI]
 |none=>
  simp only[iq,xL];cases jo c G ax (acc.length+1) r gi H' with
  |none=>rfl
  |some z=>obtain⟨d,h,cs,k⟩:=z;simp only[eA,oc,amI]
theorem S5(keep:List Nat)(ax:List (Nat×Nat))(un:Env)(o:SO)(r:List SO)(env:Env)(H:Hp)(acc:List (Nat×Nat)):mm c G keep ax un (o::r) env H acc=yL c G keep ax un (fF env o.g) o r env H acc:=by
 cases hg:fF env o.g with
 |none=>
  unfold mm yL;simp only[gW,jo,hg]
 |some b=>
  cases b with
  |false=>exact S4 (by simp only[gW,hg];cases gW c G r (put o.dst .undef env) H<;>rfl) (fun i=>by simp only[jo,hg])
  |true=>
   unfold yL yK;dsimp only;cases hk:cF c G env H o.k with
   |none=>
    unfold mm;simp only[gW,jo,hg,hk]
   |some x=>
    obtain⟨y,H'⟩:=x;cases y with
    |val d=>exact S4 (by simp only[gW,hg,hk];cases gW c G r (put o.dst d env) H'<;>rfl) (fun i=>by simp only[jo,hg,hk])
    |bR d=>
     unfold mm MK;simp only[gW,jo,hg,hk];cases ox c G ax acc.length (acc.length+1) o.dst.toList r (put o.dst .undef env) H<;>rfl
@[simp] theorem anv(keep:List Nat)(ax:List (Nat×Nat))(un:Env)(dst:Option Nat)(k:SK)(r:List SO)(env:Env)(H:Hp)(acc:List (Nat×Nat)):mm c G keep ax un (⟨dst,k,none⟩::r) env H acc=yK c G keep ax un (cF c G env H k) ⟨dst,k,none⟩ r env H acc:=S5 ..
@[simp] theorem anw(keep:List Nat)(ax:List (Nat×Nat))(un:Env)(dst:Option Nat)(k:SK)(g:Nat×Bool)(r:List SO)(env:Env)(H:Hp)(acc:List (Nat×Nat)):mm c G keep ax un (⟨dst,k,some g⟩::r) env H acc=yL c G keep ax un (fF env (some g)) ⟨dst,k,some g⟩ r env H acc:=S5 ..
@[simp] theorem anx(keep:List Nat)(ax:List (Nat×Nat))(un:Env)(d:D)(H':Hp)(o:SO)(r:List SO)(env:Env)(H:Hp)(acc:List (Nat×Nat)):yK c G keep ax un (some (.val d,H')) o r env H acc=mm c G keep ax un r (put o.dst d env) H' (acc++[jP env H H' o.k]):=rfl
@[simp] theorem anz(keep:List Nat)(ax:List (Nat×Nat))(un:Env)(d:D)(H':Hp)(o:SO)(r:List SO)(env:Env)(H:Hp)(acc:List (Nat×Nat)):yK c G keep ax un (some (.bR d,H')) o r env H acc=MK c G ax un d H' o r env H acc:=rfl
@[simp] theorem anA(keep:List Nat)(ax:List (Nat×Nat))(un:Env)(o:SO)(r:List SO)(env:Env)(H:Hp)(acc:List (Nat×Nat)):yL c G keep ax un (some true) o r env H acc=yK c G keep ax un (cF c G env H o.k) o r env H acc:=rfl
@[simp] theorem anB(keep:List Nat)(ax:List (Nat×Nat))(un:Env)(o:SO)(r:List SO)(env:Env)(H:Hp)(acc:List (Nat×Nat)):yL c G keep ax un (some false) o r env H acc=mm c G keep ax un r (put o.dst .undef env) H (acc++[(0,0)]):=rfl
noncomputable def sw (c:bC) (G:Nat→Option (List PD)) (x:Option (Out×St)) (b:SC):Option (Out×St):=
 match x with
 |some (.norm,s')=>ay c G bf b s'
 |r=>r
noncomputable def HW (c:bC) (G:Nat→Option (List PD)) (t:D) (a b:SC) (s:St):Option (Out×St):=
 match t with
 | .p (.bool t)=>if t then ay c G bf a s else ay c G bf b s
 |_=>none
def sy(id:Nat)(x:Option (Out×St)):Option (Out×St):=
 match x with
 |some (.exit i,s')=>if i=id then some (.norm,s') else some (.exit i,s')
 |r=>r
noncomputable def eu (c:bC) (G:Nat→Option (List PD)) (keep:List Nat) (b:SC) (s:St):Option (Out×St):=bf (fun s=>ay c G bf b ⟨s.env.keep keep,s.hp⟩) s
def S6(nb nt:Nat)(x:Option (Out×St)):Option (Out×St):=x.map (dJ nb nt)
def S7(nb nt:Nat)(x:Option (Out×St)):Option (Out×St):=x.map fun x=>dJ nb nt (wh nb x)
def S8(x:Option St):Option (Out×St):=x.map fun s=>(.norm,s)
def S9(slot:Nat)(x:Option (D×Hp))(env:Env):Option (Out×St):=
 match x with
 |some (d,H)=>some (.norm,⟨(slot,d)::env,H⟩)
 |none=>none
@[simp] theorem anC(s:St):ay c G bf .skip s=some (.norm,s):=rfl
@[simp] theorem anD(id:Nat)(s:St):ay c G bf (.exit id) s=some (.exit id,s):=rfl
@[simp] theorem anE(s:St):ay c G bf .ret s=some (.ret,s):=rfl
@[simp] theorem anF(b:SC)(s:St):ay c G bf (.scope b) s=ay c G bf b s:=rfl
@[simp] theorem Ta(a b:SC)(s:St):ay c G bf (.seq a b) s=sw c G (ay c G bf a s) b:=rfl
@[simp] theorem anG(x:aw)(a b:SC)(env:Env)(H:Hp):ay c G bf (.cond x a b) ⟨env,H⟩=HW c G (x.ev env) a b ⟨env,H⟩:=rfl
@[simp] theorem anH(id:Nat)(b:SC)(s:St):ay c G bf (.block id b) s=sy id (ay c G bf b s):=rfl
theorem Tb{f:St→Option (Out×St)}{s s':St}(h:f s=f s'):bf f s=bf f s':=by
 have key:∀m,iter f m s=iter f m s':=by
  intro m;cases m with
  |zero=>rfl
  |succ m=>simp only[iter,h]
 cases hx:bf f s' with
 |some r=>
  obtain⟨m,hm⟩:=sY.1 hx;exact sY.2 ⟨m,by rw[key];exact hm⟩
 |none=>
  cases hy:bf f s with
  |none=>rfl
  |some r=>
   obtain⟨m,hm⟩:=sY.1 hy;rw[key] at hm;rw[sY.2 ⟨m,hm⟩] at hx;cases hx
theorem ady{ks:List Nat}{e:Env}{t:Nat}(h:t∈ks):(e.keep ks).get t=e.get t:=by
 induction ks with
 |nil=>cases h
 |cons k ks ih=>
  show(if k=t then e.get k else Env.get (vO (fun t=>(t,e.get t)) ks) t)=_;split
  ·rename_i hk;rw[hk]
  ·rename_i hk;have :t∈ks:=by
    rcases cN.1 h with h |h
    ·exact absurd h.symm hk
    ·exact h
   exact ih this
theorem adz(ks:List Nat)(e:Env):(e.keep ks).keep ks=e.keep ks:=
 sV fun t ht=>by rw[ady ht]
@[simp] theorem anI(keep:List Nat)(b:SC)(env:Env)(H:Hp):ay c G bf (.loop keep b) ⟨env,H⟩=eu c G keep b ⟨env.keep keep,H⟩:=
 Tb (by dsimp only;rw[adz])
@[simp] theorem anJ(b:SC)(env:Env)(H:Hp):ay c G bf (.loc b) ⟨env,H⟩=S6 H.bx.length H.tk.length (ay c G bf b ⟨env,H⟩):=rfl
@[simp] theorem anK(slot e sz:Nat)(env:Env)(H:Hp):ay c G bf (.tok slot e sz) ⟨env,H⟩=S9 slot (qa e sz (env.get slot) H) env:=rfl
noncomputable def yM (c:bC) (G:Nat→Option (List PD)) (xs:Option (List (List D))) (ft b:SC) (env:Env) (ps:List Nat) (kb:Hp→Bool) (H:Hp):Option (Out×St):=
 match xs with
 |some xs=>kV (ay c G bf ft) (ay c G bf b) env ps kb xs H
 |none=>none
@[simp] theorem anL(f:Nat)(gen:List D→List D→Hp→Option (List (List D)))(g:aw)(ps:List Nat)(ft b:SC)(env:Env)(H:Hp):ay c G bf (.mJ f gen g ps ft b) ⟨env,H⟩=yM c G (CZ f gen (g.ev env) H) ft b env ps (Gd (oy (g.ev env) H) H) H:=rfl
@[simp] theorem anM(f:Nat)(gen:List D→List D→Hp→Option (List (List D)))(fi cap:List D)(H:Hp):CZ f gen (.fn f fi cap) H=gen fi cap H:=by simp[CZ]
@[simp] theorem anN(b:SC)(env:Env)(H:Hp):ay c G bf (.mI b) ⟨env,H⟩=S7 H.bx.length H.tk.length (ay c G bf b ⟨env,H⟩):=rfl
@[simp] theorem anO(slot off e sz:Nat)(s:St):ay c G bf (.tokb slot off e sz) s=S8 (Gc slot off e sz s):=rfl
@[simp] theorem anP(s:St):S8 (some s)=some (.norm,s):=rfl
@[simp] theorem anQ(nb nt:Nat)(x:Out×St):S7 nb nt (some x)=some (dJ nb nt (wh nb x)):=rfl
@[simp] theorem anR(s:St)(b:SC):sw c G (some (.norm,s)) b=ay c G bf b s:=rfl
@[simp] theorem anS(id:Nat)(s:St)(b:SC):sw c G (some (.exit id,s)) b=some (.exit id,s):=rfl
@[simp] theorem anT(s:St)(b:SC):sw c G (some (.ret,s)) b=some (.ret,s):=rfl
@[simp] theorem anU(d:D)(s:St)(b:SC):sw c G (some (.bR d,s)) b=some (.bR d,s):=rfl
@[simp] theorem anV(a b:SC)(s:St):HW c G (.p (.bool true)) a b s=ay c G bf a s:=rfl
@[simp] theorem anW(a b:SC)(s:St):HW c G (.p (.bool false)) a b s=ay c G bf b s:=rfl
@[simp] theorem anX(id:Nat)(s:St):sy id (some (.norm,s))=some (.norm,s):=rfl
@[simp] theorem anY(id:Nat)(s:St):sy id (some (.ret,s))=some (.ret,s):=rfl
@[simp] theorem anZ(id:Nat)(d:D)(s:St):sy id (some (.bR d,s))=some (.bR d,s):=rfl
@[simp] theorem an0(id i:Nat)(s:St):sy id (some (.exit i,s))=if i=id then some (.norm,s) else some (.exit i,s):=rfl
@[simp] theorem an1(nb nt:Nat)(x:Out×St):S6 nb nt (some x)=some (dJ nb nt x):=rfl
@[simp] theorem an2(slot:Nat)(d:D)(H:Hp)(env:Env):S9 slot (some (d,H)) env=some (.norm,⟨(slot,d)::env,H⟩):=rfl
theorem Tc{keep:List Nat}{b:SC}{env:Env}{H:Hp}{s':St}(h:ay c G bf b ⟨env.keep keep,H⟩=some (.norm,s')):eu c G keep b ⟨env,H⟩=eu c G keep b s':=Y8 h
theorem Td{keep:List Nat}{b:SC}{env:Env}{H:Hp}{o:Out}{s':St}(h:ay c G bf b ⟨env.keep keep,H⟩=some (o,s'))(ho:o≠.norm):eu c G keep b ⟨env,H⟩=some (o,s'):=Y9 h ho
@[simp] theorem an3(k:IntKind)(a b:Int):lW .add k a b=some (.int k (k.wrap (a+b))):=rfl
@[simp] theorem an4(k:IntKind)(a b:Int):lW .sub k a b=some (.int k (k.wrap (a-b))):=rfl
@[simp] theorem an5(k:IntKind)(a b:Int):lW .mul k a b=some (.int k (k.wrap (a*b))):=rfl
@[simp] theorem an6(k:IntKind)(a b:Int):lW .quo k a b=if b=0 then none else some (.int k (k.wrap (a.tdiv b))):=rfl
@[simp] theorem an7(k:IntKind)(a b:Int):lW .rem k a b=if b=0 then none else some (.int k (a.tmod b)):=rfl
@[simp] theorem an8(k:IntKind)(a b:Int):lW .eql k a b=some (.bool (a==b)):=rfl
@[simp] theorem an9(k:IntKind)(a b:Int):lW .neq k a b=some (.bool (a !=b)):=rfl
@[simp] theorem aoa(k:IntKind)(a b:Int):lW .lss k a b=some (.bool (decide (a<b))):=rfl
@[simp] theorem aob(k:IntKind)(a b:Int):lW .leq k a b=some (.bool (decide (a≤b))):=rfl
@[simp] theorem aoc(k:IntKind)(a b:Int):lW .gtr k a b=some (.bool (decide (a>b))):=rfl
@[simp] theorem aod(k:IntKind)(a b:Int):lW .geq k a b=some (.bool (decide (a≥b))):=rfl
theorem wrap64{n:Int}(h1: -9223372036854775808≤n)(h2:n<9223372036854775808):IntKind.i64.wrap n=n:=by
 simp[IntKind.wrap,IntKind.bits,IntKind.signed];omega
@[simp] theorem aoe(f:aw)(args:List aw)(env:Env)(H:Hp):cF c G env H (.call f args)=p9 c (f.ev env) (args.map (·.ev env)) H:=rfl
@[simp] theorem aof(x:aw)(env:Env)(H:Hp):cF c G env H (.panic x)=Ga (x.ev env) H:=rfl
@[simp] theorem aog(g:Nat)(first cap args:List D)(H:Hp):p9 c (.fn g first cap) args H=av c g (first++args++cap) H:=rfl
theorem HX{f:Nat}{args:List D}{H:Hp}{d:D}{Hl:Hp}{d':D}(h:c f args ⟨[],[]⟩=some (.val d,Hl))(hr:D.aD args=[])(ht:D.bz args=[])(ha:D.ba (idx []) (idx []) args=some args)
    (hd:d.ren (fun _=>none) (fun _=>none)=some d'):av c f args H=some (.val d',H):=by
 have yx:∀n,reach H n []=[]:=by
  intro n;cases n<;>simp[reach,ef]
 unfold av;simp only[hr,ht,ins,yx,fX,lA,nodupB,Kh,if_true,aP,ha,h];unfold back;simp only[gM,fW,b9,if_true,vT,List.getElem?_nil,aP,cq,bt.ren,hd,eA]
end Go.Vs
namespace Go.Vs
variable {P : Program} {W : World} {G : Nat → Option (List PD)} {γ : Gh} {H : Hp} {w : World}
theorem vd{fid:Nat}{c:Code}{Q:Exit→Act→World→Prop}{a:Act}{w:World}(h:c.wp P Q a w):gl none fid P c Q a w:=
 pE (ro:=none) ((wpIn_wide (n:=0)).2 h)
def pJ(P:Program)(fn:Func)(tmps:Array Value)(R:Ending→World→Prop):List Deferred→FrameMode→World→Prop
 |[],u,w=>Leaves P fn tmps R [] u w
 |d::ds,u,w=>(u≠.run∧∃r w',d.target= .collected r∧(Instr.takeDeferred r).run P w= .ok [] w'∧pJ P fn tmps R ds u w')∨Leaves P fn tmps R (d::ds) u w
theorem A3{fn:Func}{tmps:Array Value}{R:Ending→World→Prop}{ds:List Deferred}{u:FrameMode}{w:World}(h:Leaves P fn tmps R ds u w):pJ P fn tmps R ds u w:=by
 cases ds with
 |nil=>exact h
 |cons d ds=>exact .inr h
theorem Te{fn:Func}{tmps:Array Value}{R:Ending→World→Prop}:∀(ds:List Deferred) (u:FrameMode) (w:World) (fr:Go.Frame) (cs:List Go.Frame),fr.mode=u→fr.defers=ds→fr.tmps=tmps→P.funcs[fr.fn]? =some fn→fr.kind= .normal→pJ P fn tmps R ds u w→
    ∃e w' ct,R e w'∧Comes P (lone fr cs w) (lone ct cs w') e∧ct.fn=fr.fn∧ct.leaving P w' e
 |[],u,w,fr,cs,h1,h2,h3,h4,h5,h=>leaves_steps [] u w fr cs h1 h2 h3 h4 h5 h
 |d::ds,u,w,fr,cs,h1,h2,h3,h4,h5,h=>by
  rcases h with⟨hu,r,w1,ht,hk,h⟩ |h
  ·have hs:=step_collected (cs:=cs) (by rw[h1];exact hu) h2 ht hk;obtain⟨e,w',ct,q1,q2,q3,q4⟩:=Te ds u w1 ({fr with defers:=[]++ds}:Go.Frame) cs h1 rfl h3 h4 h5 h;exact⟨e,w',ct,q1,Comes.of_steps (.one hs) q2,q3,q4⟩
  ·exact leaves_steps (d::ds) u w fr cs h1 h2 h3 h4 h5 h
def ve(P:Program)(fn:Func)(R:Ending→World→Prop):Exit→Act→World→Prop
 | .normal,a,w | .ret,a,w=>pJ P fn a.tmps R a.defers .returning w
 | .panic chain,a,w=>pJ P fn a.tmps R a.defers (.panicking chain) w
 | .outgrown,_,w=>R .outgrown w
 |_,_,_=>False
theorem ML{f:FuncId}{fn:Func}{c:Code}{args:Array Value}{w:World}{R:Ending→World→Prop}(hf:P.funcs[f]? =some fn)(hb:fn.body=some c)
    (h:gl none f P c (ve P fn R) {tmps:=args++nA (fn.ntmps-args.size) undef,defers:=[]} w):Calls P f args w R:=by
 intro cs;obtain⟨b,ae⟩:∃b:Go.Frame,b={(default:Go.Frame) with fn:=f,kind:=.normal,roundOf:=none}:=⟨_,rfl⟩;have b1:b.roundOf=none:=by rw[ae]
 have b2:b.fn=f:=by rw[ae]
 have b3:b.kind= .normal:=by rw[ae]
 have adA:Go.Frame.enter P f args .normal=b.atR {tmps:=args++nA (fn.ntmps-args.size) undef,defers:=[]} [.code c]:=by
  rw[ae];simp[Go.Frame.enter,Go.Frame.atR,hf,hb]
 obtain⟨e,a1,w1,hq,AU⟩:=h b [] cs b1 b2;rw[adA];have leave:∀(u:FrameMode) (todo:List Item),pJ P fn a1.tmps R a1.defers u w1→∃e w' ct,R e w'∧Comes P (lone ({b.atR a1 todo with mode:=u}:Go.Frame) cs w1) (lone ct cs w') e∧ct.fn=f∧ct.leaving P w' e:=by
  intro u todo hl;obtain⟨e,w',ct,h1,h2,h3,h4⟩:=Te a1.defers u w1 ({b.atR a1 todo with mode:=u}:Go.Frame) cs rfl rfl rfl (by show P.funcs[b.fn]? =_;rw[b2];exact hf) b3 hl;exact⟨e,w',ct,h1,h2,h3.trans b2,h4⟩
 cases e with
 |normal=>
  obtain⟨e,w',ct,h1,h2,h3,h4⟩:=leave .returning [] hq;exact⟨e,w',ct,h1,Comes.of_steps (Steps.trans (StepsIn.steps AU) (.one (stepR_end b1))) h2,h3,h4⟩
 |ret=>
  obtain⟨todo,hs⟩:=AU.1 b1;obtain⟨e,w',ct,h1,h2,h3,h4⟩:=leave .returning todo hq;exact⟨e,w',ct,h1,Comes.of_steps (StepsIn.steps hs) h2,h3,h4⟩
 |panic ch=>
  obtain⟨todo,hs⟩:=AU;obtain⟨e,w',ct,h1,h2,h3,h4⟩:=leave (.panicking ch) todo hq;exact⟨e,w',ct,h1,Comes.of_steps (StepsIn.steps hs) h2,h3,h4⟩
 |outgrown=>exact⟨.outgrown,w1,b,hq,AU.resolve_left (by rw[b3];simp),b2,trivial⟩
 |exit id=>exact hq.elim
 |goto l=>exact hq.elim
theorem MM{fn:Func}{tmps:Array Value}{R:Ending→World→Prop}{ds:List Deferred}{u:FrameMode}{B:Nat}{K:World→Prop}(hu:u≠.run)(hK:∀w,K w→pJ P fn tmps R ds u w)
    (hT:∀w m,K w→B≤m→w.heap[m]? =some (.deferred (some []))→K (w.putObj m (.deferred none))):∀(ms:List Nat) (w:World),K w→ms.Nodup→(∀m∈ms,B≤m∧w.heap[m]? =some (.deferred (some [])))→pJ P fn tmps R (ms.map mark++ds) u w
 |[],w,h,_,_=>hK w h
 |m::ms,w,h,hn,hm=>by
  obtain⟨h1,h2⟩:=vS.1 hn;obtain⟨g1,g2⟩:=hm m (by simp);refine .inl ⟨hu,m,w.putObj m (.deferred none),rfl,run_takeDeferred g2,?_⟩;refine MM hu hK hT ms _ (hT w m h g1 g2) h2 fun k hk=>?_;obtain⟨k1,k2⟩:=hm k (by simp[hk]);exact⟨k1,(World.putObj_heap_other (fun e=>h1 (by rw[←e];exact hk))).trans k2⟩
def oN(fid:Nat)(P:Program):List Code→(Exit→Act→World→Prop)→Act→World→Prop
 |[],Q,a,w=>Q .normal a w
 |c::r,Q,a,w=>gl none fid P c (Exit.then (oN fid P r Q) Q) a w
theorem Tf{fid:Nat}:∀(x:List Code) {Q Q':Exit→Act→World→Prop} {a:Act} {w:World},oN fid P x Q a w→(∀e a w,Q e a w→Q' e a w)→oN fid P x Q' a w
 |[],Q,Q',a,w,h,k=>k _ _ _ h
 |c::x,Q,Q',a,w,h,k=>by
  refine yE (P:=P) h fun e a w q=>?_;cases e with
  |normal=>exact Tf x q k
  |_=>exact k _ _ _ q
theorem Tg{fid:Nat}:∀(x y:List Code) (Q:Exit→Act→World→Prop) (a:Act) (w:World),oN fid P (x++y) Q a w→oN fid P x (Exit.then (oN fid P y Q) Q) a w
 |[],y,Q,a,w,h=>h
 |c::x,y,Q,a,w,h=>by
  refine yE (P:=P) h fun e a w q=>?_;cases e with
  |normal=>exact Tg x y Q a w q
  |_=>exact q
theorem Th{fid:Nat}:∀(x y:List Code) (Q:Exit→Act→World→Prop) (a:Act) (w:World),oN fid P x (Exit.then (oN fid P y Q) Q) a w→oN fid P (x++y) Q a w
 |[],y,Q,a,w,h=>h
 |c::x,y,Q,a,w,h=>by
  refine yE (P:=P) h fun e a w q=>?_;cases e with
  |normal=>exact Th x y Q a w q
  |_=>exact q
theorem adB{fid:Nat}:∀(c:Code) {Q:Exit→Act→World→Prop} {a:Act} {w:World},oN fid P (spine c) Q a w→gl none fid P c Q a w:=by
 intro c
 induction c with
 |seq x y Mx My=>
  intro Q a w h;refine tC (Mx (Tf (spine x) (Tg (spine x) (spine y) Q a w h) fun e a w q=>?_));cases e with
  |normal=>exact My q
  |_=>exact q
 |_=>
  intro Q a w h;refine yE (P:=P) h fun e a w q=>?_;cases e with
  |normal=>exact q
  |_=>exact q
theorem MN{fid:Nat}:∀(x:List Code) {Q:Exit→Act→World→Prop} {a:Act} {w:World},D3 P x Q a w→oN fid P x Q a w
 |[],Q,a,w,h=>h
 |c::x,Q,a,w,h=>by
  refine yE (vd (fid:=fid) h) fun e a w q=>?_;cases e with
  |normal=>exact MN x q
  |_=>exact q
theorem adC{c:bC}(S:Sound P W G c)(hm:P.follows .mixedOrders=true){it:It}(jK:∀b s r,it b s=some r→∃m,iter b m s=some r){nt fid B:Nat}{fnc:Func}(qu:P.funcs[fid]? =some fnc){df:List Deferred}(sc:SC)(cd:List Code):
    ∀(kj:SC),yI P nt sc cd=some kj→kj.fU P W G→∀(Q:Exit→Act→World→Prop) (γ:Gh) (s:St) (a:Act) (w:World) (out:Out) (s':St),(∀a w,¬Q .outgrown a w)→ay c G it kj s=some (out,s')→
     bD W G γ s.hp w→bh γ s.env a.tmps→a.tmps.size=nt→wH (some B) df a.defers w→nP W G nt (some B) df Q γ s.hp w out s'→oN fid P cd Q a w:=by
 fun_induction yI P nt sc cd
 all_goals (intro kj h hG Q γ s a w out s' hQ he I E hn hd hp)
 case case1 x y c0 d r x' y' hy hx ih=>
  cases h;simp only[ay] at he;split at he
  ·rename_i s1 h1;refine DV S hm jK x c0 x' hx (ro:=none) hG.1 (.inr ⟨rfl,⟨B,rfl⟩,fnc,qu⟩) _ γ s a w .norm s1 hQ h1 I E hn hd fun γ' a2 w2 L F J bH cO E'=>?_;exact ih y' hy hG.2 Q γ' s1 a2 w2 out s' hQ he J E' cO bH (hp.later L F)
  ·rename_i aq;refine DV S hm jK x c0 x' hx (ro:=none) hG.1 (.inr ⟨rfl,⟨B,rfl⟩,fnc,qu⟩) _ γ s a w out s' hQ he I E hn hd (hp.other fun e a w hx q=>?_);cases out with
   |norm=>exact absurd he (aq s')
   |exit id=>cases hx;exact q
   |ret=>cases hx;exact q
   |bR d=>obtain⟨ch,rfl⟩:=hx;exact q
 case case3=>
  refine DV S hm jK _ _ kj h (ro:=none) hG (.inr ⟨rfl,⟨B,rfl⟩,fnc,qu⟩) _ γ s a w out s' hQ he I E hn hd (hp.other fun e a w hx q=>?_);cases e<;>exact q
 all_goals cases h
theorem MO{fn:Func}{R:Ending→World→Prop}{e:Exit}{a:Act}{w:World}(h:bodyPostD P fn R e a w):ve P fn R e a w:=by
 cases e with
 |normal=>exact A3 h
 |ret=>exact A3 h
 |panic ch=>exact A3 h
 |outgrown=>exact h
 |exit id=>exact h
 |goto t=>exact h
theorem adD{c:bC}(S:Sound P W G c)(hm:P.follows .mixedOrders=true){it:It}(jK:∀b s r,it b s=some r→∃m,iter b m s=some r){T:Nat→Option (Nat×FC)}(hT:∀f x,T f=some x→wK P f x.1 x.2){f:Nat}{fc:FC}(hf:FOk0 P f fc){x:F8}(hx:fc.iu=some x)(uS:x.pre.all SC.cZ=true)(hG:fc.body.fU P W G)
    {args:List D} {H:Hp} {r:bt} {H':Hp} (hl:args.length=fc.np) (h:iT c T G it fc ⟨entry 0 args,H⟩=some (r,H')):yv P W G f args H r H':=by
 obtain⟨fn,cd,h1,h2,h3,h4,h5,h6,h7⟩:=hf.ex;rw[hx] at h7;dsimp only at h7;refine⟨⟨fn,h1,h2,by rw[h3];rfl⟩,fun γ w vs I hv=>?_⟩;have lY:vs.size=fc.np:=by rw[hv.1,hl]
 have aS:(vs++nA (fn.ntmps-vs.size) undef).size=fc.nt:=by simp[h4,lY];omega
 refine ML h1 h3 (adB cd ?_);generalize hR:(fun(e:Ending) (w':World)=>∃γ',γ.le γ'∧Frame γ H w γ' H' w'∧bD W G γ' H' w'∧jU γ' r e)=R;have D9:∀(a:Act) (w':World),¬ve P fn R .outgrown a w':=by
  rintro a w' q;have q:R .outgrown w':=q;rw[←hR] at q;obtain⟨_,_,_,_,q⟩:=q;exact MD q
 unfold MA at h7;split at h7
 ·rename_i id ops rest DU;split at h7
  ·rename_i o adE;split at h7
   ·rename_i f0 rX ts0 dF oI;split at h7
    ·rename_i pre sl f' x6 b Ea dk yN Ti hb;split at h7
     ·rename_i ME;simp only[bI,lB.injEq] at h7;obtain⟨dB,HA⟩:=h7;have e1:x.pre=pre:=by rw[←dB]
      have e2:x.ops=sl.dropLast:=by rw[←dB]
      have e3:x.f=f':=by rw[←dB]
      have e4:x.as=x6:=by rw[←dB]
      rw[←e1] at Ea;rw[←e3] at yN;rw[←e4] at Ti;rw[HA] at hb;rw[←xH x.pre.length (spine cd),DU];refine Th _ _ _ _ _ ?_;unfold iT at h;rw[hx] at h;dsimp only at h;split at h
      ·rename_i s1 iL;refine MN _ (Mz S hm jK _ _ _ Ea uS _ γ ⟨entry 0 args,H⟩ _ w .norm s1 D9 iL I (HR hv _) aS (df:=[]) rfl fun γ1 a1 w1 L1 F1 J1 dL iJ E1=>?_);show oN f P (.region id ops false::rest) _ a1 w1;have dL:a1.defers=[]:=dL;have ok:=Mj dk;obtain⟨ie,ld⟩:=HF dk;have MP:ops.toList=ops.toList.dropLast++[o]:=by
        have cb:ops.toList.getLast?=some o:=by
         rw[Array.getLast?_toList];exact adE
        have aq:ops.toList≠[]:=by intro e;rw[e] at cb;cases cb
        have hg:ops.toList.getLast aq=o:=by
         rw[List.getLast?_eq_some_getLast aq] at cb;exact oi cb
        rw[←hg];exact(List.dropLast_concat_getLast aq).symm
       have Tj:ops.toList.dropLast.length=x.ops.length:=by rw[e2,amJ,amJ,ie]
       have Tk:∀(i:Nat) a so,ops.toList.dropLast[i]? =some a→x.ops[i]? =some so→qm P ops fc.nt a so:=fun i a so ha bE=>by
        rw[e2] at bE;rw[List.getElem?_dropLast] at ha bE;split at ha
        ·split at bE
         ·obtain⟨_,q⟩:=ld i a so ha bE;exact Mi q
         ·cases bE
        ·cases ha
       show gl none f P (Code.region id ops false) _ a1 w1;refine vd (wp_region_list ?_);rw[MP];split at h
       ·rename_i A4 H2 MQ;refine Dr S ok.lt [o] ops.toList.dropLast x.ops γ1 s1.env s1.hp a1 w1 Tj Tk J1 E1 iJ _ MQ (fun γ2 Eb MR a2 w2 hr L2 F2 J2 E2 ic ja=>?_) (fun γ2 d2 Eb MR v2 a2 w2 hr _ _ _ _ _ _ _=>by cases hr);cases hr;have adF:a2.defers=[]:=ja.trans dL;have iy:=bT E2 yN;have uK:=GB E2 Ti;have hw:Region.wanted o (yielded ops a2.tmps)=true:=by simp[Region.wanted,oI]
        have tail:∀(out:Out) (s2:St) (rv:D),ay c G it fc.body ⟨A4.keep x.keep,H2⟩=some (out,s2)→((rv= .p .kA∧(out= .norm∨out= .ret))∨out= .bR rv)→qN c T G it fc.res (x.f.ev A4) (x.as.map (·.ev A4)) rv s2=some (r,H')→
            wpList P ops (Exit.then (oN f P rest (ve P fn R)) (ve P fn R)) [o] a2 w2:=by
         intro out s2 rv aC yb ju;unfold qN at ju;split at ju
         ·rename_i g first cap HK
          rw[HK] at iy;generalize adG:a2.eval f0=aoh at iy;cases iy with
          |fn _ fa ca _ _ adH adI adJ adK=>
           have rfa:cy γ2 fa first:=⟨adH,adI⟩
           have rca:cy γ2 ca cap:=⟨adJ,adK⟩;have cM:(execOp a2.eval o).run P w2= .ok (.defer {target:=.fn (.func g) ca,args:=fa++rX.map a2.eval}) w2:=by
            simp[execOp,dF,resolve,adG,Deferred.ofValue]
           simp only[wpList];rw[if_pos hw];left;unfold Oper.wp;rw[cM];show oN f P rest (ve P fn R) (Act.put ({tmps:=a2.tmps,defers:={target:=.fn (.func g) ca,args:=fa++rX.map a2.eval}::a2.defers}:Act) o.dst undef) w2;have adN:∀(z:Act),z.put o.dst undef=z:=fun z=>by
            have :o.dst=none:=by simpa using ME
            rw[this];rfl
           rw[adN,adF];split at ju
           ·rename_i dd H3 mg;obtain⟨d,HY,rfl,rfl⟩:∃d,lX G s2.env H3 fc.res=some d∧r= .val d∧H'=H3:=by
             rcases SU ju with⟨s,d,hs,hd,iC,nQ⟩ |⟨s,d,hs,_,_⟩
             ·rcases hs with hs |hs
              ·cases hs
              ·cases hs;exact⟨d,hd,iC,nQ⟩
             ·cases hs
            have leave:∀γ3 (a3:Act) w3 (v3:Value) (u:FrameMode),γ2.le γ3→Frame γ2 H2 w2 γ3 s2.hp w3→bD W G γ3 s2.hp w3→bh γ3 s2.env a3.tmps→aL γ3 v3 rv→
                ((u= .returning∧v3= .nilIface)∨u= .panicking [{v:=v3,recovered:=false}])→Leaves P fn a3.tmps R [{target:=.fn (.func g) ca,args:=fa++rX.map a2.eval}] u w3:=by
             intro γ3 a3 w3 v3 u L3 F3 J3 E3 V3 hu;have lK:cy γ3 (#[v3]++(fa++rX.map a2.eval++ca)) (rv::(first++x.as.map (·.ev A4)++cap)):=by
              have oJ:=((rfa.mono L3).append (uK.mono L3)).append (rca.mono L3);have h0:cy γ3 #[v3] [rv]:=⟨rfl,fun i d hd=>by
               match i with
               | 0=>simp only[ew,bI] at hd;subst hd;exact V3
               |i+1=>simp at hd⟩
              exact h0.append oJ
             have A5:=Rq (C:=fun vs w R=>D5 P g vs w R) (fun _ _ _ _ h q=>h.mono q) (fun as H r H' hc=>ac7 (W:=W) S hm jK hT as H r H' hc) mg γ3 w3 _ J3 lK;obtain⟨rW,adO,uL⟩:=A5 v3 _ rfl;have fin:∀u' w4,settle u'= .returning→(∃γ4,γ3.le γ4∧Frame γ3 s2.hp w3 γ4 H' w4∧bD W G γ4 H' w4∧∃v,aL γ4 v dd)→Leaves P fn a3.tmps R [] (settle u') w4:=by
              rintro u' w4 hs ⟨γ4,L4,F4,J4,_⟩;rw[hs];obtain⟨v,q1,q2⟩:=SL J4.toInv (E3.mono L4) h6 HY;refine⟨v,q1,?_⟩;rw[←hR];exact⟨γ4,L1.trans (L2.trans (L3.trans L4)),F1.trans L1.base (F2.trans L2.base (F3.trans L3.base F4)),J4,v,rfl,q2⟩
             refine leaves_cons (f:=g) (args:=fa++rX.map a2.eval++ca) ?_ (by simp only[invoke];exact LC rW _ _) ?_
             ·rcases hu with⟨rfl,_⟩ |rfl<;>simp
             ·rcases hu with⟨rfl,h0⟩ |rfl
              ·refine(adO h0).mono ?_;rintro e u' w4 ⟨rfl,γ4,L4,F4,J4,v4,rfl,V4⟩;exact fin _ _ rfl ⟨γ4,L4,F4,J4,v4,V4⟩
              ·refine uL.mono ?_;rintro e u' w4 ⟨rfl,γ4,L4,F4,J4,v4,rfl,V4⟩;exact fin _ _ (by simp[settle]) ⟨γ4,L4,F4,J4,v4,V4⟩
            refine adC S hm jK h1 _ _ _ hb hG _ γ2 ⟨A4.keep x.keep,H2⟩ _ w2 out s2 D9 aC J2 (E2.keep _) ic (B:=w2.heap.size) (df:=[{target:=.fn (.func g) ca,args:=fa++rX.map a2.eval}]) ⟨aV _,[],rfl,Kg,fun _ h=>(mG h).elim⟩ ?_;intro γ3 a3 w3 L3 F3 J3 AW;obtain⟨hB3,ms,A6,gj,MS⟩:=AW;have go:∀(v3:Value) (u:FrameMode),bh γ3 s2.env a3.tmps→aL γ3 v3 rv→((u= .returning∧v3= .nilIface)∨u= .panicking [{v:=v3,recovered:=false}])→pJ P fn a3.tmps R a3.defers u w3:=by
             intro v3 u E3 V3 hu;rw[A6];refine MM (K:=fun w4=>Frame γ2 H2 w2 γ3 s2.hp w4∧bD W G γ3 s2.hp w4) (B:=w2.heap.size) (by rcases hu with⟨rfl,_⟩ |rfl<;>simp) (fun w4 h4=>A3 (leave γ3 a3 w4 v3 u L3 h4.1 h4.2 E3 V3 hu)) (fun w4 m h4 j1 kL=>⟨h4.1.jv j1 _,h4.2.jv kL rfl (gA J2.nM.size j1) _⟩) ms w3 ⟨F3,J3⟩ gj MS
            rcases yb with⟨rfl,rfl |rfl⟩ |rfl
            ·intro AX E3;exact go .nilIface .returning E3 (.p _ _ .kA) (.inl ⟨rfl,rfl⟩)
            ·intro AX E3;exact go .nilIface .returning E3 (.p _ _ .kA) (.inl ⟨rfl,rfl⟩)
            ·intro AX E3 v3 V3;exact go v3 _ E3 V3 (.inr rfl)
           ·cases ju
         ·cases ju
        split at h
        ·rename_i s2 aC;exact tail _ s2 _ aC (.inl ⟨rfl,.inl rfl⟩) h
        ·rename_i s2 aC;exact tail _ s2 _ aC (.inl ⟨rfl,.inr rfl⟩) h
        ·rename_i d2 s2 aC;exact tail _ s2 _ aC (.inr rfl) h
        ·cases h
       ·rename_i d2 A4 H2 MQ;cases h;refine Dr S ok.lt [o] ops.toList.dropLast x.ops γ1 s1.env s1.hp a1 w1 Tj Tk J1 E1 iJ _ MQ (fun γ2 Eb MR a2 w2 hr _ _ _ _ _ _=>by cases hr) (fun γ2 d2 Eb MR v2 a2 w2 hr L2 F2 J2 V2 E2 ic ja=>?_);cases hr;show pJ P fn a2.tmps R a2.defers (.panicking [{v:=v2,recovered:=false}]) w2;rw[ja.trans dL];show R (.panicked _) w2;rw[←hR];exact⟨γ2,L1.trans L2,F1.trans L1.base F2,J2,v2,rfl,V2⟩
       ·cases h
      ·rename_i aq;obtain⟨out,s,iX,hp⟩:=MC (W:=W) (γ:=γ) (H:=H) (w:=w) h6 h;refine MN _ (Mz S hm jK _ _ _ Ea uS _ γ ⟨entry 0 args,H⟩ _ w out s D9 iX I (HR hv _) aS (df:=[]) rfl (hp.other fun e a w hx q=>?_));subst hR;cases out with
       |norm=>exact absurd iX (aq s)
       |exit id=>cases hx;exact MO (AY q)
       |ret=>cases hx;exact MO (AY q)
       |bR d=>obtain⟨ch,rfl⟩:=hx;exact MO (AY q)
     ·cases h7
    ·cases h7
   ·cases h7
  ·cases h7
 ·cases h7
variable {P : Program} {W : World} {G : Nat → Option (List PD)} {γ : Gh} {H : Hp} {w : World}
theorem adP{c:bC}(S:Sound P W G c)(hm:P.follows .mixedOrders=true){it:It}(jK:∀b s r,it b s=some r→∃m,iter b m s=some r){f:Nat}{fc:FC}(hf:FOk0 P f fc)(gj:fc.iu=none)(hG:fc.body.fU P W G){args:List D}{H:Hp}{r:bt}{H':Hp}
    (hl:args.length=fc.np) (h:finish G fc.res (ay c G it fc.body ⟨entry 0 args,H⟩)=some (r,H')):yv P W G f args H r H':=by
 obtain⟨fn,cd,h1,h2,h3,h4,h5,h6,h7⟩:=hf.ex;rw[gj] at h7;obtain⟨sk,h7⟩:=h7;refine⟨⟨fn,h1,h2,by rw[h3];rfl⟩,fun γ w vs I hv=>?_⟩;have lY:vs.size=fc.np:=by rw[hv.1,hl]
 have aS:(vs++nA (fn.ntmps-vs.size) undef).size=fc.nt:=by simp[h4,lY];omega
 refine ML h1 h3 ?_;obtain⟨out,s,hx,hp⟩:=MC (W:=W) (γ:=γ) (H:=H) (w:=w) h6 h;generalize hR:(fun(e:Ending) (w':World)=>∃γ',γ.le γ'∧Frame γ H w γ' H' w'∧bD W G γ' H' w'∧jU γ' r e)=R at hp;have D9:∀(a:Act) (w':World),¬ve P fn R .outgrown a w':=by
  rintro a w' q;have q:R .outgrown w':=q;rw[←hR] at q;obtain⟨_,_,_,_,q⟩:=q;exact MD q
 refine DV S hm jK sk cd fc.body h7 (ro:=none) (fid:=f) (mk:=some w.heap.size) (df:=[]) hG (.inr ⟨rfl,⟨_,rfl⟩,fn,h1⟩) (ve P fn R) γ ⟨entry 0 args,H⟩ _ w out s D9 hx I (HR hv _) aS ⟨aV _,[],rfl,Kg,fun _ h=>(mG h).elim⟩ ?_;intro γ' a' w' L F J hd;obtain⟨hB,ms,A6,adQ,MS⟩:=hd;have go:∀(u:FrameMode),u≠.run→(∀w4,Frame γ H w γ' s.hp w4→bD W G γ' s.hp w4→Leaves P fn a'.tmps R [] u w4)→pJ P fn a'.tmps R a'.defers u w':=by
  intro u hu kF;rw[A6];exact MM (K:=fun w4=>Frame γ H w γ' s.hp w4∧bD W G γ' s.hp w4) (B:=w.heap.size) hu (fun w4 h4=>A3 (kF w4 h4.1 h4.2)) (fun w4 m h4 j1 kL=>⟨h4.1.jv j1 _,h4.2.jv kL rfl (gA I.nM.size j1) _⟩) ms w' ⟨F,J⟩ adQ MS
 cases out with
 |norm=>
  intro hn E;refine go .returning (by simp) fun w4 F4 J4=>?_;have q:=hp γ' {a' with defers:=[]} w4 L F4 J4 rfl hn E;exact AY q
 |ret=>
  intro hn E;refine go .returning (by simp) fun w4 F4 J4=>?_;have q:=hp γ' {a' with defers:=[]} w4 L F4 J4 rfl hn E;exact AY q
 |exit id=>
  intro hn E;exact(hp γ' {a' with defers:=[]} w' L F J rfl hn E).elim
 |bR d=>
  intro hn E v V;refine go (.panicking [{v:=v,recovered:=false}]) (by simp) fun w4 F4 J4=>?_;have q:=hp γ' {a' with defers:=[]} w4 L F4 J4 rfl hn E v V;exact AY q
structure A7 (P:Program) (W:World) (G:Nat→Option (List PD)) (f:Nat) (fc:FC):Prop where
 ok:FOk0 P f fc
 fU:fc.body.fU P W G
 pre:∀x,fc.iu=some x→x.pre.all SC.cZ=true
theorem wJ.MT{f:Nat}{fc:FC}(h:wJ P f fc):A7 P W G f fc:=by
 have h1:=h.nr;unfold FC.cZ at h1;rw[bQ] at h1;refine⟨h.toFOk0,SC.sq h1.1,fun x hx=>?_⟩;have h2:=h1.2;rw[hx] at h2;exact h2
theorem FOk0.MT{f:Nat}{fc:FC}(h:FOk0 P f fc)(hd:fc.iu=none)(hg:fc.body.fU P W G):A7 P W G f fc:=⟨h,hg,fun x hx=>by rw[hd] at hx;cases hx⟩
structure HZ (P:Program) (W:World) (p:Pg):Prop where
 mixed:P.follows .mixedOrders=true
 lib:Sound P W p.G p.lib
 fn:∀f fc,p.F f=some fc→A7 P W p.G f fc
 dfn:∀f x,p.D f=some x→wK P f x.1 x.2:=by(intro _ _ h;cases h)
theorem MU{p:Pg}(h:HZ P W p):∀n,Sound P W p.G (fG p n)
 | 0=>fun f args H r H' e=>by simp only[fG] at e;cases e
 |n+1=>fun f args H r H' e=>by
  simp only[fG] at e;split at e
  ·rename_i r0 hr;cases e;exact h.lib f args H r H' hr
  ·split at e
   ·rename_i fc uG;have g:=h.fn f fc uG;split at e
    ·rename_i hl;refine adi e fun r0 H0 h0=>?_;cases hd:fc.iu with
     |none=>
      unfold iT at h0;rw[hd] at h0;exact adP (MU h n) h.mixed (it:=fun b s=>iter b n s) (fun b s r hr=>⟨n,hr⟩) g.ok hd g.fU hl h0
     |some x=>exact adD (MU h n) h.mixed (it:=fun b s=>iter b n s) (fun b s r hr=>⟨n,hr⟩) h.dfn g.ok hd (g.pre x hd) g.fU hl h0
    ·cases e
   ·cases e
theorem adS{p:Pg}(h:HZ P W p):Sound P W p.G (call p):=fun f args H r H' e=>by
 obtain⟨n,hn⟩:=x5.1 e;exact MU h n f args H r H' hn
end Go.Vs
namespace Go.Vs
open Go.RowKit Go.ChangeShapes Go.WideShapes
variable {P : Program}
def gG(W:World):Gh:=⟨W.heap.size,fun _=>none,fun b o=>W.cell? ⟨b,o,none⟩,[],[]⟩
structure H7 (G:Nat→Option (List PD)) (W:World):Prop where
 ok:∀g cs,G g=some cs→∀j c,cs[j]? =some c→c.one=true∧∃v,W.cell? ⟨g,j,none⟩=some v∧aZ (gG W).mem v c
theorem adT{G:Nat→Option (List PD)}{W:World}(h:H7 G W):Inv G (gG W) ⟨[],[]⟩ W:=by
 refine⟨aV _,fun _ _ _ h=>by simp[gG] at h,fun t row n b cap h _=>by simp[gG] at h,fun _ _ _ h=>h,h.ok,rfl,fun i j b ci cj h1 _ _ _ _ _=>by simp[gG] at h1,fun i b cs hb _=>?_,fun b o hb=>?_,fun i b h1 _=>by simp[gG] at h1,rfl,fun t row f hr _=>?_,fun t row f hr _=>?_,fun t t' b hf _=>?_⟩
 ·simp[gG] at hb
 ·have:=hb.mem;simp[gG] at this
 ·simp[gG] at hr
 ·simp[gG] at hr
 ·obtain⟨row,f,cap,hr,_⟩:=hf;simp[gG] at hr
theorem Tl{W:World}{b:Nat}(h:kE (gG W) ⟨[],[]⟩ b):False:=by
 rcases h with h |⟨t,row,f,cap,hr,_⟩
 ·have:=h.mem;simp[gG] at this
 ·simp[gG] at hr
theorem adU{G:Nat→Option (List PD)}{W:World}(h:H7 G W):bD W G (gG W) ⟨[],[]⟩ W:=
 ⟨adT h,rfl,Below.refl _ W,fun _ h=>(Tl h).elim⟩
theorem adV{W W':World}{γ':Gh}{H':Hp}(F:Frame (gG W) ⟨[],[]⟩ W γ' H' W'):Below W.heap.size W W':=
 ⟨F.os,F.tape,F.output,F.size,fun k hk=>(F.bP k hk Tl).1 hk⟩
theorem Tm{p:Pg}{W:World}(h:HZ P W p){f:Nat}{ds:List D}{H':Hp}(hc:call p f ds ⟨[],[]⟩=some (.val (.p (.bool true)),H')){args:Array Value}(hg:H7 p.G W)(hr:cy (gG W) args ds):
    Calls P f args W fun e W'=>e= .returned (.bool true)∧Below W.heap.size W W':=by
 obtain⟨_,m⟩:=adS h f ds ⟨[],[]⟩ _ _ hc;refine(m (gG W) W args (adU hg) hr).mono ?_;rintro e W' ⟨γ',L,F,J,v,rfl,hv⟩;rw[hv.bY.s8];exact⟨rfl,adV F⟩
section
variable {H : Type} {enc : TypeId × Value → H}
theorem Tn(hl:laidOutB P=true){W W':World}(B:Below W.heap.size W W'):∀{ts:List TypeId} {vs:List Value} {ds:List (DataW H)} {ps:List MemPlace},(∀t∈ts,P.readableRec t=true∧t<P.types.size)→
    DataW.TrodAll enc P W 0 (fun _=>true) true ts vs ds ps→(∀x∈ps,x.block<W.heap.size)→DataW.TrodAll enc P W' 0 (fun b=>decide (b<W.heap.size)) true ts vs ds ps
 |[],[],[],_,_,h,_=>h
 |t::ts,v::vs,d::ds,ps,ht,⟨p,q,h1,h2,e⟩,ah=>by
  subst e;exact⟨p,q,Below.trod hl (ht t (by simp)).1 (ht t (by simp)).2 h1 B fun x hx=>ah x (by simp[hx]),Tn hl B (fun u hu=>ht u (by simp[hu])) h2 fun x hx=>ah x (by simp[hx]),rfl⟩
 |[],[],_::_,_,_,h,_=>h.elim
 |[],_::_,_,_,_,h,_=>by cases h
 |_::_,[],_,_,_,h,_=>by cases h
 |_::_,_::_,[],_,_,h,_=>by cases h
theorem To{fn:Func}{s:ChangeSpec}{apart fresh handsOn:Bool}{W W':World}{args:Array Value}{ds:List (DataW H)}{before:List MemPlace}{tb:TypeId}(hl:laidOutB P=true)
    (px:∀t∈fn.params.toList,P.readableRec t=true∧t<P.types.size) (hv:s.vars=[]) (hW:DataW.Whole enc P fn.params.toList s.vars apart W args.toList ds [] before) (hr:fn.resultTypes= #[tb]) (hb:P.underlying tb=some .bool)
    (hs:s.fn H (ds++[])={results:=[.lit (.bool true)],args:=ds}) (B:Below W.heap.size W W'):s.post enc P fn apart fresh handsOn false W args (.bool true) W':=by
 have ah:=hW.lt;obtain⟨p,q,hA,hV,he,hz,hn⟩:=hW;have hq:q=[]:=by rw[hv] at hV;exact hV
 refine⟨ds,[],before,[],p,[],⟨p,q,hA,hV,he,hz,hn⟩,?_,?_,?_,?_,fun h=>by cases h⟩
 ·rw[hs,hr];exact trodAll_mk1 (shut_bool hb true)
 ·rw[hs];refine Tn hl B px hA fun x hx=>by simpa using ah x (by rw[he];simp[hx])
 ·rw[hs,hv];rfl
 ·refine World.keptBut_mono (fun x hx=>?_) (B.frame (fun _=>False));cases hx
end
end Go.Vs
namespace Go.Vs
theorem A8(s:List UInt8):fg 0 (.p (.str s))=some s.length:=rfl
theorem A9:fg 1 (.p .aI)=some 0:=rfl
theorem wL(sz:Nat)(es:List PD):fg 1 (.p (.slice sz es))=some es.length:=rfl
theorem Ba(e0 sz:Nat)(es:List PD):fg 1 (.cI e0 sz es)=some es.length:=rfl
theorem Bb(t e sz:Nat)(es:List PD):fg 1 (.bk t e sz es)=some es.length:=rfl
theorem adW{sz:Nat}{es:List PD}{k:Nat}(h:k<es.length):eN none sz (.p (.slice sz es)) (k:Int)=some (.ro (es[k]).cells 0):=by
 simp[eN,D.iR,h]
theorem Ia{e0 sz:Nat}{es:List PD}{k:Nat}(h:k<es.length):eN none sz (.cI e0 sz es) (k:Int)=some (.ro (es[k]).cells 0):=by
 simp[eN,D.iR,h]
theorem Tp{t e sz:Nat}{es:List PD}{k:Nat}(h:k<es.length):eN none sz (.bk t e sz es) (k:Int)=some (.ro (es[k]).cells 0):=by
 simp[eN,D.iR,h]
theorem Tq{γ:Gh}:cy γ #[] []:=⟨rfl,fun i x hx=>by simp at hx⟩
theorem yO{γ:Gh}{v:Value}{d:D}{vs:List Value}{ds:List D}(h:aL γ v d)(k:cy γ ⟨vs⟩ ds):cy γ ⟨v::vs⟩ (d::ds):=by
 refine⟨by have:=k.1;simpa using this,fun i x hx=>?_⟩
 match i with
 | 0=>simp only[ew,bI] at hx;subst hx;exact h
 |i+1=>simpa using k.2 i x (by simpa using hx)
inductive Sl (α:Type) where
 |nil
 |cV
 |of (l:List α)
def Sl.map{α β:Type}(f:α→β):Sl α→Sl β
 | .nil=>.nil
 | .cV=>.cV
 | .of l=>.of (l.map f)
def fD(sz:Nat):Sl PD→PD
 | .nil=>.aI
 | .cV=>.slice sz []
 | .of []=>.emp sz
 | .of (e::es)=>.slice sz (e::es)
def els{α:Type}:Sl α→List α
 | .of l=>l
 |_=>[]
theorem MV{α β:Type}(f:α→β)(o:Sl α):els (o.map f)=(els o).map f:=by cases o<;>rfl
theorem adX(sz:Nat)(o:Sl PD):fg 1 (.p (fD sz o))=some (els o).length:=by
 match o with
 | .nil=>rfl
 | .cV=>rfl
 | .of []=>rfl
 | .of (e::es)=>rfl
theorem adY{sz:Nat}{o:Sl PD}{k:Nat}(h:k<(els o).length):eN none sz (.p (fD sz o)) (k:Int)=some (.ro ((els o)[k]).cells 0):=by
 match o with
 | .nil=>simp[els] at h
 | .cV=>simp[els] at h
 | .of []=>simp[els] at h
 | .of (e::es)=>
  have h':k<(e::es).length:=h;simp only[fD,eN,D.iR,els];simp[aA h']
theorem sA{α:Type}(sz:Nat)(f:α→PD)(o:Sl α):fg 1 (.p (fD sz (o.map f)))=some (els o).length:=by
 rw[adX,MV,cx]
theorem sB{α:Type}{sz:Nat}{f:α→PD}{o:Sl α}{k:Nat}(h:k<(els o).length):eN none sz (.p (fD sz (o.map f))) (k:Int)=some (.ro (f (els o)[k]).cells 0):=by
 have h':k<(els (o.map f)).length:=by rw[MV,cx];exact h
 rw[adY h'];simp[MV]
theorem adZ(sz:Nat)(o:Sl PD):(D.p (fD sz o)).one=true:=by
 match o with
 | .nil=>rfl
 | .cV=>rfl
 | .of []=>rfl
 | .of (_::_)=>rfl
theorem rp(sz:Nat)(o:Sl PD):(fD sz o).one=true:=by
 match o with
 | .nil=>rfl
 | .cV=>rfl
 | .of []=>rfl
 | .of (_::_)=>rfl
@[simp] theorem aoj(k:IntKind)(n:Int):(D.p (.int k n)).one=true:=rfl
@[simp] theorem aok(b:Bool):(D.p (.bool b)).one=true:=rfl
@[simp] theorem aol(s:List UInt8):(D.p (.str s)).one=true:=rfl
@[simp] theorem aom(sz:Nat)(es:List PD):(D.p (.slice sz es)).one=true:=rfl
@[simp] theorem aon(sz:Nat)(es:List PD):(PD.slice sz es).one=true:=rfl
@[simp] theorem aoo:(D.p .aI).one=true:=rfl
@[simp] theorem aop:(D.p .iQ).one=true:=rfl
@[simp] theorem aoq(i o:Nat):(D.box i o).one=true:=rfl
@[simp] theorem ad0(i:Nat):(D.bU i).one=true:=rfl
@[simp] theorem aor(t e sz:Nat)(es:List PD):(D.bk t e sz es).one=true:=rfl
@[simp] theorem aos(e sz:Nat)(es:List PD):(D.cI e sz es).one=true:=rfl
@[simp] theorem ad1(i o n:Nat)(c:Option Nat)(sz:Nat):(D.bu i o n c sz).one=true:=rfl
@[simp] theorem aot(k:IntKind)(n:Int):(PD.int k n).one=true:=rfl
@[simp] theorem aou(s:List UInt8):(PD.str s).one=true:=rfl
@[simp] theorem aov(b:Bool):(PD.bool b).one=true:=rfl
@[simp] theorem aow:PD.aI.one=true:=rfl
theorem cR:∀l:List PD,gU (l.map D.p)=some l
 |[]=>rfl
 |x::l=>by simp[gU,cR l]
theorem yP(l:List PD):aU (l.map D.p)=false:=by
 match l with
 |[]=>rfl
 |[x]=>rfl
 |x::y::r=>rfl
@[simp] theorem iM(f g:Nat→Option Nat):∀l:List PD,D.ba f g (l.map D.p)=some (l.map D.p)
 |[]=>rfl
 |x::l=>by simp[D.ba,D.ren,iM f g l]
@[simp] theorem oO:∀l:List PD,D.aD (l.map D.p)=[]
 |[]=>rfl
 |x::l=>by simp[D.aD,D.refs,oO l]
@[simp] theorem sC:∀l:List PD,D.bz (l.map D.p)=[]
 |[]=>rfl
 |x::l=>by simp[D.bz,D.cJ,sC l]
theorem bw{k:Nat}(h:k<4611686018427387904):IntKind.i64.wrap ((k:Int)+1)=((k+1 :Nat):Int):=by rw[wrap64 (by omega) (by omega)];rfl
def Rec(n:Nat)(x:PD):Prop:=∃cs,x= .agg cs∧cs.length=n∧∀c∈cs,c.one=true
section
variable {c : bC} {G : Nat → Option (List PD)} {sz : Nat} {zs : List PD} {g : Nat} {α : Type} {f : α → PD} {a b : Sl α} {r : α → α → Bool}
 (hz:zs.length=sz) (h0:0<sz) (Lc:zs.all PD.one=true) (ha:∀x∈els a,Rec sz (f x)) (hb:∀x∈els b,Rec sz (f x))
 (hc:∀(k:Nat) (h1:k<(els a).length) (h2:k<(els b).length) H,av c g [.p (f (els a)[k]),.p (f (els b)[k])] H=some (.val (.p (.bool (r (els a)[k] (els b)[k]))),H))
 (hl:(els a).length=(els b).length) (hn:(els a).length≤4611686018427387904)
include hz h0 Lc ha hb hc hl hn
end
end Go.Vs
namespace Go.Vs
open Go.RowKit Go.ChangeShapes Go.WideShapes
variable {P : Program}
def nR(P:Program)(e:TypeId)(xs:List PD):PD:=
 match P.underlying e,xs with
 |some (.struct _),xs=>.agg xs
 |_,[x]=>x
 |_,xs=>.agg xs
inductive vg (P:Program):TypeId→List PD→Prop where
 |bool (t:TypeId) (b:Bool) (ht:P.underlying t=some .bool):vg P t [.bool b]
 |int (t:TypeId) (k:IntKind) (n:Int) (ht:P.underlying t=some (.int k)) (hw:(Lit.int k n).wf=true):vg P t [.int k n]
 |str (t:TypeId) (s:List UInt8) (ht:P.underlying t=some .string) (hs:s.length≤maxLen):vg P t [.str s]
 |aI (t e:TypeId) (ht:P.underlying t=some (.slice e)):vg P t [.aI]
 |emp (t e:TypeId) (ht:P.underlying t=some (.slice e)):vg P t [.emp (P.cellsOf e)]
 |sl (t e:TypeId) (es:List PD) (aq:es≠[]) (ht:P.underlying t=some (.slice e)) (hl:es.length≤maxLen) (h:∀x∈es,vg P e x.cells) (hs:∀x∈es,x.cells.length=P.cellsOf e) (hm:∀x∈es,x=nR P e x.cells):vg P t [.slice (P.cellsOf e) es]
 |struct (t:TypeId) (fs:Array Field) (parts:List (List PD)) (ht:P.underlying t=some (.struct fs)) (hl:parts.length=fs.size) (h:∀(i:Nat) f p,fs[i]? =some f→parts[i]? =some p→vg P f.type p) (hs:∀(i:Nat) f p,fs[i]? =some f→parts[i]? =some p→p.length=P.cellsOf f.type):vg P t parts.flatten
def wM(P:Program)(n:Nat):Nat→List Field→Bool
 |i,[]=>i==n
 |i,f::r=>f.offset==i&&wM P n (i+P.cellsOf f.type) r
def Ec(P:Program)(ts:List TypeId)(t:TypeId):Bool:=
 match P.underlying t with
 |some .bool=>true
 |some (.int _)=>true
 |some .string=>true
 |some (.slice e)=>ts.contains e&&decide (0<P.cellsOf e)
 |some (.struct fs)=>wM P (P.cellsOf t) 0 fs.toList&&fs.toList.all fun f=>ts.contains f.type
 |_=>false
def sD(m:Mem)(cs:List Value)(xs:List PD):Prop:=xs.length=cs.length∧(∀x∈xs,x.one=true)∧∀(i:Nat) c x,cs[i]? =some c→xs[i]? =some x→aZ m c x
theorem sD.single{m:Mem}{c:Value}{x:PD}(h:aZ m c x)(h1:x.one=true):sD m [c] [x]:=
 ⟨rfl,fun y hy=>by simp at hy;subst hy;exact h1,fun i c' x' hc hx=>by
  match i with
  | 0=>simp at hc hx;subst hc;subst hx;exact h
  |i+1=>simp at hc⟩
theorem sD.append{m:Mem}{cs ds:List Value}{xs ys:List PD}(h:sD m cs xs)(k:sD m ds ys):sD m (cs++ds) (xs++ys):=by
 obtain⟨h1,h2,h3⟩:=h;obtain⟨k1,k2,k3⟩:=k;refine⟨by simp[h1,k1],fun x hx=>?_,fun i c x hc hx=>?_⟩
 ·rcases cW.1 hx with q |q
  ·exact h2 x q
  ·exact k2 x q
 ·by_cases hi:i<cs.length
  ·rw[cH hi] at hc;rw[cH (by omega)] at hx;exact h3 i c x hc hx
  ·rw[eL (by omega)] at hc;rw[eL (by omega),h1] at hx;exact k3 _ c x hc hx
theorem ad3{e:TypeId}{xs:List PD}(h1:∀x∈xs,x.one=true):(nR P e xs).cells=xs:=by
 unfold nR;split
 ·rfl
 ·rename_i x _;have:=h1 x (by simp);cases x<;>first |rfl |cases this
 ·rfl
section
variable {H : Type} {enc : TypeId × Value → H} {W : World}
theorem Tr{n:Nat}:∀{l:List Field} {off:Nat},wM P n off l=true→off≤n∧∀f∈l,f.offset+P.cellsOf f.type≤n
 |[],off,h=>by simp only[wM,beq_iff_eq] at h;exact⟨by omega,fun f hf=>by simp at hf⟩
 |g::l,off,h=>by
  simp only[wM,bQ,beq_iff_eq] at h;obtain⟨h1,h2⟩:=Tr h.2;refine⟨by omega,fun f hf=>?_⟩;rcases cN.1 hf with rfl |hf
  ·have:=h.1;omega
  ·exact h2 f hf
end
end Go.Vs
namespace Go.Vs
open Go.RowKit
variable {P : Program} {W : World} {G : Nat → Option (List PD)} {γ : Gh} {H : Hp} {w : World}
theorem Ts{γ:Gh}{vs:Array Value}{d:D}(h:cy γ vs [d]):∃v,vs= #[v]∧aL γ v d:=by
 obtain⟨hl,hr⟩:=h;obtain⟨l⟩:=vs
 match l,hl with
 |[v],_=>
  have:=hr 0 d rfl;exact⟨v,rfl,by simpa[bN] using this⟩
end Go.Vs
namespace Go
variable {H : Type} {enc : TypeId × Value → H}
end Go
namespace Go.Vs
variable {P : Program} {W : World} {G : Nat → Option (List PD)} {nt : Nat}
theorem ad4:∀(sc:SC) (fin:List Nat) (ex:List (Nat×List Nat)) (out:List Nat),sc.fU P W G→(eV fin sc ex out).2.fU P W G:=by
 intro sc
 induction sc with
 |seq a b fI fJ=>intro fin ex out h;exact⟨fI _ _ _ h.1,fJ _ _ _ h.2⟩
 |cond c a b fI fJ=>intro fin ex out h;exact⟨fI _ _ _ h.1,fJ _ _ _ h.2⟩
 |mJ f gen g ps a b fI fJ=>intro fin ex out h;exact⟨h.1,fI _ _ _ h.2.1,fJ _ _ _ h.2.2⟩
 |block id b ih=>intro fin ex out h;exact ih fin ((id,out)::ex) out h
 |loop k b ih=>intro fin ex out h;exact ih fin ex (eV fin b ex []).1 h
 |mI b ih=>intro fin ex out h;exact ih fin ex out h
 |scope b ih=>intro fin ex out h;exact ih fin ex out h
 |loc b ih=>intro fin ex out h;exact ih fin ex out h
 |_=>intros;trivial
theorem ad6(sk:SC)(c:Code):∀sc,dN P nt sk c=some sc→sk.fU P W G→sc.fU P W G:=by
 fun_induction dN P nt sk c
 all_goals (intro sc h hg)
 all_goals try (cases h;done)
 all_goals try (cases h;trivial)
 case case1 ih=>
  obtain⟨b',hb,rfl⟩:=au.1 h;exact ih b' hb hg
 case case4 keep hs id ops hn=>
  obtain⟨sl,dk,rfl⟩:=au.1 h;trivial
 case case9 f gen g0 ps0 a b g ps x y g' a' b' hb ha hgg hn fI fJ=>
  cases h;exact⟨hg.1,fI a' ha hg.2.1,fJ b' hb hg.2.2⟩
 case case12 s e z b c hc ih=>
  obtain⟨b',hb,rfl⟩:=au.1 h;exact⟨trivial,ih b' hb hg.2⟩
 case case14 s off e z b c hc ih=>
  obtain⟨b',hb,rfl⟩:=au.1 h;exact⟨trivial,ih b' hb hg.2⟩
 case case16 a b x y n1 n2 a' b' hb ha fI fJ=>
  cases h;exact⟨fI a' ha hg.1,fJ b' hb hg.2⟩
 case case18 c0 a b c x y g' a' b' hb ha hgg fI fJ=>
  cases h;exact⟨fI a' ha hg.1,fJ b' hb hg.2⟩
 case case20 id0 b id x ih=>
  obtain⟨b',hb,rfl⟩:=au.1 h;exact ih b' hb hg
 case case21 keep b x ih=>
  obtain⟨b',hb,rfl⟩:=au.1 h;exact ih b' hb hg
 case case22 b x ih=>
  obtain⟨b',hb,rfl⟩:=au.1 h;exact ih b' hb hg
 case case25 ih=>
  obtain⟨b',hb,rfl⟩:=au.1 h;exact ih b' hb hg
theorem Tt{nl:Bool}{b:Code}{x:SC}(h:x.fU P W G):(HU nl b x).fU P W G:=by
 unfold HU;split
 ·exact h
 ·exact h
theorem ad8{cf:Cf}{fi:Nat}(hg:∀f,AZ fi cf.rg=some f→sj P W G f (cf.fU f)):∀c:Code,(oM cf fi c).fU P W G:=by
 intro c
 induction c with
 |seq a b fI fJ=>exact⟨fI,fJ⟩
 |cond c a b fI fJ=>exact⟨fI,fJ⟩
 |block id b ih=>exact ih
 |loop b ih=>
  unfold oM;split
  ·exact⟨trivial,ih⟩
  ·exact Tt ih
 |scope b ih=>exact ih
 |rangeFunc g ps a b fI fJ=>
  unfold oM;split
  ·rename_i f hf;exact⟨hg f hf,fI,Tt fJ⟩
  ·trivial
 |region id ops draw=>
  unfold oM;split<;>trivial
 |_=>trivial
theorem ad9{cf:Cf}{fi:Nat}{f:Func}{fc:FC}(hf:P.funcs[fi]? =some f)(h:A0 P cf fi f=some fc)(hg:∀g,AZ fi cf.rg=some g→sj P W G g (cf.fU g)):A7 P W G fi fc:=by
 refine⟨adw hf h,?_,?_⟩
 ·unfold A0 at h;split at h
  ·cases h
  ·split at h
   ·split at h
    ·split at h
     ·rename_i b MJ;cases h;exact ad4 _ _ _ _ (ad6 _ _ _ MJ (ad8 hg _))
     ·cases h
    ·cases h
   ·cases h
 ·intro x hx;unfold A0 at h;split at h
  ·cases h
  ·split at h
   ·split at h
    ·split at h
     ·cases h;cases hx
     ·cases h
    ·cases h
   ·cases h
variable {P : Program} {t e : TypeId} {xs : List PD}
theorem MW{c:PD}(hn:∀fs,P.underlying e≠some (.struct fs)):nR P e [c]=c:=by
 unfold nR;cases he:P.underlying e with
 |none=>rfl
 |some d=>cases d<;>first |exact absurd he (hn _) |rfl
theorem wN{fs:Array Field}(h:P.underlying e=some (.struct fs)):nR P e xs= .agg xs:=by
 unfold nR;rw[h]
end Go.Vs
namespace Go.Vs
open Go.RowKit Go.ChangeShapes Go.WideShapes
variable {P : Program}
inductive dV (P:Program):TypeId→List PD→Prop where
 |bool (t:TypeId) (b:Bool) (ht:P.underlying t=some .bool):dV P t [.bool b]
 |int (t:TypeId) (k:IntKind) (n:Int) (ht:P.underlying t=some (.int k)) (hw:(Lit.int k n).wf=true):dV P t [.int k n]
 |str (t:TypeId) (s:List UInt8) (ht:P.underlying t=some .string) (hs:s.length≤reachBytes):dV P t [.str s]
 |aI (t e:TypeId) (ht:P.underlying t=some (.slice e)):dV P t [.aI]
 |emp (t e:TypeId) (ht:P.underlying t=some (.slice e)):dV P t [.emp (P.cellsOf e)]
 |sl (t e:TypeId) (es:List PD) (aq:es≠[]) (ht:P.underlying t=some (.slice e)) (hl:es.length*P.bytesOf e≤reachBytes) (h:∀x∈es,dV P e x.cells) (hs:∀x∈es,x.cells.length=P.cellsOf e) (hm:∀x∈es,x=nR P e x.cells):dV P t [.slice (P.cellsOf e) es]
 |struct (t:TypeId) (fs:Array Field) (parts:List (List PD)) (ht:P.underlying t=some (.struct fs)) (hl:parts.length=fs.size) (h:∀(i:Nat) f p,fs[i]? =some f→parts[i]? =some p→dV P f.type p) (hs:∀(i:Nat) f p,fs[i]? =some f→parts[i]? =some p→p.length=P.cellsOf f.type):dV P t parts.flatten
theorem Tu{H:Type}{P:Program}{e:TypeId}:∀{l:List (DataW H)} {d:DataW H} {w:Nat},d∈l→w∈d.weights P e→w∈DataW.weightsAll P e l
 |x::r,d,w,hd,hw=>by
  simp only[DataW.weightsAll,cW];rcases cN.1 hd with rfl |hd
  ·exact .inl hw
  ·exact .inr (Tu hd hw)
theorem MX{H:Type}{P:Program}:∀{ts:List TypeId} {l:List (DataW H)} {i:Nat} {t:TypeId} {d:DataW H} {w:Nat},ts[i]? =some t→l[i]? =some d→w∈d.weights P t→w∈DataW.weightsEach P ts l
 |t::ts,x::r,i,t',d,w,ht,hd,hw=>by
  simp only[DataW.weightsEach,cW];cases i with
  |zero=>cases ht;cases hd;exact .inl hw
  |succ i=>exact .inr (MX (i:=i) ht hd hw)
 |[],_,i,_,_,_,ht,_,_=>by simp at ht
 |_::_,[],i,_,_,_,_,hd,_=>by simp at hd
def wO{H:Type}(P:Program)(t:TypeId)(d:DataW H):Prop:=∀w∈d.weights P t,w≤reachBytes
section
variable {H : Type} {enc : TypeId × Value → H} {W : World}
theorem Tv{n:Nat}{ts:List TypeId}(IH:∀t cs x,t∈ts→DataW.trod enc P W 0 (fun _=>true) true n t cs=some x→wO P t x.1→∃xs,sD (gG W).mem cs xs∧dV P t xs)(cs:List Value):
    ∀(l:List Field) (off:Nat),wM P cs.length off l=true→(∀f∈l,f.type∈ts)→(∀f∈l,∃y,DataW.trod enc P W 0 (fun _=>true) true n f.type ((cs.drop f.offset).take (P.cellsOf f.type))=some y∧wO P f.type y.1)→
     off≤cs.length→(∀f∈l,f.offset+P.cellsOf f.type≤cs.length)→∃parts:List (List PD),parts.length=l.length∧sD (gG W).mem (cs.drop off) parts.flatten∧∀(i:Nat) f p,l[i]? =some f→parts[i]? =some p→dV P f.type p∧p.length=P.cellsOf f.type
 |[],off,ht,_,_,rZ,_=>by
  simp only[wM,beq_iff_eq] at ht;refine⟨[],rfl,?_,fun i f p h=>by simp at h⟩;subst ht;simp only[Ki,List.flatten_nil];exact⟨rfl,fun x hx=>by simp at hx,fun i c x h=>by simp at h⟩
 |f::l,off,ht,hm,hr,rZ,hle=>by
  simp only[wM,bQ,beq_iff_eq] at ht;obtain⟨h1,h2⟩:=ht;obtain⟨y,hy,Ib⟩:=hr f (by simp);obtain⟨xs,q1,q2⟩:=IH _ _ _ (hm f (by simp)) hy Ib;have fQ:=hle f (by simp);obtain⟨parts,p1,p2,p3⟩:=Tv IH cs l (off+P.cellsOf f.type) h2 (fun g hg=>hm g (by simp[hg])) (fun g hg=>hr g (by simp[hg])) (by omega) (fun g hg=>hle g (by simp[hg]));have hlen:xs.length=P.cellsOf f.type:=by rw[q1.1];simp;omega
  refine⟨xs::parts,by simp[p1],?_,fun i g p hg hp=>?_⟩
  ·have:=q1.append p2;rw[h1] at this;have e:(cs.drop off).take (P.cellsOf f.type)++cs.drop (off+P.cellsOf f.type)=cs.drop off:=by
    rw[←CP];exact xH _ _
   rw[e] at this;simpa using this
  ·match i with
   | 0=>simp at hg hp;subst hg;subst hp;exact⟨q2,hlen⟩
   |i+1=>exact p3 i g p (by simpa using hg) (by simpa using hp)
theorem MY{ts:List TypeId}(px:ts.all (Ec P ts)=true):∀(n:Nat) t cs x,t∈ts→DataW.trod enc P W 0 (fun _=>true) true n t cs=some x→wO P t x.1→∃xs,sD (gG W).mem cs xs∧dV P t xs
 | 0,t,cs,x,_,h,_=>by simp[DataW.trod] at h
 |n+1,t,cs,x,hm,h,hz=>by
  have bV:=gI.1 px t hm;unfold Ec at bV;split at bV
  ·rename_i ht;obtain⟨b,rfl,_⟩:=DataW.trod_bool ht h;exact⟨[.bool b],.single (.bool b) rfl,.bool t b ht⟩
  ·rename_i k ht;obtain⟨m,rfl,_,hw⟩:=DataW.trod_int ht h;exact⟨[.int k m],.single (.int k m) rfl,.int t k m ht hw⟩
  ·rename_i ht;obtain⟨s,rfl,rfl,hl⟩:=DataW.trod_string ht h;refine⟨[.str s.data.toList],.single ?_ rfl,.str t _ ht (hz _ (by simp[DataW.weights]))⟩;have :s=⟨s.data.toList.toArray⟩:=by simp
   rw[this];exact .str _
  ·rename_i e ht;simp only[bQ,decide_eq_true_eq] at bV;obtain⟨hc,lJ⟩:=bV;have hme:e∈ts:=by simpa using hc
   rcases DataW.trod_slice ht h with⟨rfl,_⟩ |⟨a,len,cap,elems,rest,n',cO,rfl,rfl,_,hlc,gC,gP,jt,_⟩
   ·exact⟨[.aI],.single .aI rfl,.aI t e ht⟩
   ·have MZ:n'=n:=by omega
    subst MZ;have each:∀i,i<len→∃ci xi,W.cells? 0 (a.add (i*P.cellsOf e)) (P.cellsOf e)=some ci∧sD (gG W).mem ci xi∧dV P e xi:=fun i hi=>by
     have:=jt i hi;rw[aA (by omega)] at this;obtain⟨ci,h1,h2⟩:=Option.bind_eq_some_iff.1 this;have aS:wO P e (elems[i]'(by omega)).1:=fun w hw=>hz w (by
      simp only[DataW.weights,ht,cN,cW];exact .inr (.inl (Tu (Kc (bO (by omega))) hw)))
     obtain⟨xi,h3,h4⟩:=MY px n' e ci _ hme h2 aS;exact⟨ci,xi,h1,h3,h4⟩
    let C:Nat→List Value:=fun i=>if hi:i<len then(each i hi).choose else[]
    let X:Nat→List PD:=fun i=>if hi:i<len then(each i hi).choose_spec.choose else[]
    have yQ:∀i,i<len→W.cells? 0 (a.add (i*P.cellsOf e)) (P.cellsOf e)=some (C i)∧sD (gG W).mem (C i) (X i)∧dV P e (X i):=fun i hi=>by
     simp only[C,X,hi,dif_pos];exact(each i hi).choose_spec.choose_spec
    have hlen:∀i,i<len→(X i).length=P.cellsOf e∧(C i).length=P.cellsOf e:=fun i hi=>by
     obtain⟨h1,h2,_⟩:=yQ i hi;have:=(World.cells?_some h1).2.1;exact⟨h2.1.trans this,this⟩
    have nS:∀i,i<len→(nR P e (X i)).cells=X i:=fun i hi=>ad3 (yQ i hi).2.1.2.1;by_cases h0:len=0
    ·subst h0;exact⟨[.emp (P.cellsOf e)],.single (.emp a cap _) rfl,.emp t e ht⟩
    have dP:dV P t [.slice (P.cellsOf e) ((ku len).map fun i=>nR P e (X i))]:=by
     have aS:=hz ((((elems.map (·.1)).length)+(rest.map (·.1)).length)*P.bytesOf e) (by simp only[DataW.weights,ht];exact pa);have hle:len*P.bytesOf e≤(((elems.map (·.1)).length)+(rest.map (·.1)).length)*P.bytesOf e:=kz _ (by rw[cx];omega);refine .sl t e _ (by simp[h0]) ht (by rw[cx,List.length_range];omega) (fun x hx=>?_) (fun x hx=>?_) (fun x hx=>?_)
     ·obtain⟨i,hi,rfl⟩:=dz.1 hx;have hi:i<len:=by simpa using hi
      rw[nS i hi];exact(yQ i hi).2.2
     ·obtain⟨i,hi,rfl⟩:=dz.1 hx;have hi:i<len:=by simpa using hi
      rw[nS i hi];exact(hlen i hi).1
     ·obtain⟨i,hi,rfl⟩:=dz.1 hx;have hi:i<len:=by simpa using hi
      rw[nS i hi]
    refine⟨_,.single ?_ rfl,dP⟩
    ·have hf:=(World.cells?_some (yQ 0 (by omega)).1).2.2 0 lJ;have Tw:(C 0)[0]?≠none:=by
      have:=(hlen 0 (by omega)).2;rw[aA (by omega)];simp
     obtain⟨b,o,sp⟩:=a;have iB:sp=none:=by
      cases sp with
      |none=>rfl
      |some q=>
       exfalso;rw[←hf] at Tw;apply Tw;unfold World.cell? Addr.add;split
       ·simp
       ·rfl
     subst iB;have hl:((ku len).map fun i=>nR P e (X i)).length=len:=by simp
     have:=aZ.sl (m:=(gG W).mem) b o cap (P.cellsOf e) ((ku len).map fun i=>nR P e (X i)) (fun i j=>(C i).getD j undef) (by rw[hl];exact hlc) (fun x hx=>by
      obtain⟨i,hi,rfl⟩:=dz.1 hx;have hi:i<len:=by simpa using hi
      rw[nS i hi];exact(hlen i hi).1) (fun x hx c Tx=>by
      obtain⟨i,hi,rfl⟩:=dz.1 hx;have hi:i<len:=by simpa using hi
      rw[nS i hi] at Tx;exact(yQ i hi).2.1.2.1 c Tx) (fun i j hi hj=>by
      rw[hl] at hi;have q:=(World.cells?_some (yQ i hi).1).2.2 j hj;simp only[Addr.add_lit] at q;show W.cell? ⟨b,o+i*P.cellsOf e+j,none⟩=_;rw[q];have:=(hlen i hi).2;simp[fE,aA (show j<(C i).length by omega)]) (fun i x j c hi hj=>by
      have fC:i<len:=by have:=(az.1 hi).1;simpa using this
      have hx:x=nR P e (X i):=by
       rw[cP,List.getElem?_range fC] at hi;simpa using hi.symm
      subst hx;rw[nS i fC] at hj;have nL:=(az.1 hj).1;have h1:=(hlen i fC).1;have h2:=(hlen i fC).2;have sg:(C i)[j]? =some ((C i).getD j undef):=by simp[fE,aA (show j<(C i).length by omega)]
      exact(yQ i fC).2.1.2.2 j _ c sg hj)
     rw[hl] at this;exact this
  ·rename_i fs ht;simp only[bQ] at bV;obtain⟨kG,eQ⟩:=bV;obtain⟨xs,n',cO,rfl,hl,hlx,jt⟩:=DataW.trod_struct ht h;have MZ:n'=n:=by omega
   subst MZ;rw[←hl] at kG;have ey:∀f∈fs.toList,f.type∈ts:=fun f hf=>by
    have:=gI.1 eQ f hf;simpa using this
   obtain⟨t1,t2⟩:=Tr kG;obtain⟨parts,p1,p2,p3⟩:=Tv (W:=W) (enc:=enc) (n:=n') (ts:=ts) (fun t cs x hm h hz=>MY px n' t cs x hm h hz) cs fs.toList 0 kG ey (fun f hf=>by
    obtain⟨i,hi⟩:=eC hf;have fk:fs[i]? =some f:=by simpa using hi
    rw[jt i f fk];have fC:i<fs.size:=(gz.1 fk).1;refine⟨_,aA (by omega),fun w hw=>hz w ?_⟩;simp only[DataW.weights,ht];exact MX (i:=i) (by rw[cP,hi];rfl) (by rw[cP,aA (by omega)];rfl) hw) t1 t2
   refine⟨parts.flatten,by simpa using p2,.struct t fs parts ht (by simpa using p1) (fun i f p hf hp=>(p3 i f p (by simpa using hf) hp).1) (fun i f p hf hp=>(p3 i f p (by simpa using hf) hp).2)⟩
  ·cases bV
theorem Ed{ts:List TypeId}(px:ts.all (Ec P ts)=true){t:TypeId}(hm:t∈ts){r:Reach}{b0:Nat}{v:Value}{d:DataW H}{ps:List MemPlace}(hval:Value.okWide P W r b0 t v)(hd:DataW.Trod enc P W 0 (fun _=>true) true t v d ps)(hz:wO P t d):
    ∃x:PD,aL (gG W) v (.p x)∧dV P t x.cells∧((∃fs,P.underlying t=some (.struct fs))→x= .agg x.cells)∧((∀fs,P.underlying t≠some (.struct fs))→x.one=true):=by
 obtain⟨fuel,hf⟩:=hd;obtain⟨xs,q,dP⟩:=MY px fuel t _ _ hm hf hz;have bV:=gI.1 px t hm;have one:(∀fs,P.underlying t≠some (.struct fs))→v.cells= #[v]→∃x:PD,aL (gG W) v (.p x)∧dV P t x.cells∧((∃fs,P.underlying t=some (.struct fs))→x= .agg x.cells)∧((∀fs,P.underlying t≠some (.struct fs))→x.one=true):=by
  intro uF hv;rw[hv] at q;obtain⟨q1,q2,q3⟩:=q
  match xs,q1 with
  |[x],_=>
   have h1:=q2 x (by simp);have hc:x.cells=[x]:=by cases x<;>first |rfl |cases h1
   exact⟨x,.p _ _ (q3 0 v x rfl rfl),by rw[hc];exact dP,fun⟨fs,h⟩=>absurd h (uF fs),fun _=>h1⟩
 unfold Ec at bV;split at bV
 ·rename_i ht;obtain⟨b,rfl⟩:=okWide_bool ht hval;exact one (fun fs h=>by rw[ht] at h;cases h) rfl
 ·rename_i k ht;obtain⟨m,rfl⟩:=okWide_int ht hval;exact one (fun fs h=>by rw[ht] at h;cases h) rfl
 ·rename_i ht;obtain⟨s,rfl⟩:=okWide_string ht hval;exact one (fun fs h=>by rw[ht] at h;cases h) rfl
 ·rename_i e ht;obtain⟨a,l,c,rfl⟩:=okWide_slice ht hval;exact one (fun fs h=>by rw[ht] at h;cases h) rfl
 ·rename_i fs ht;obtain⟨cs,rfl,_⟩:=okWide_struct ht hval;obtain⟨q1,q2,q3⟩:=q;refine⟨.agg xs,.p _ _ (.agg cs xs (by simpa[Value.cells] using q1.symm) q2 fun i x hx=>?_),dP,fun _=>rfl,fun h=>absurd ht (h fs)⟩;have hi:i<cs.size:=by
   have:=(az.1 hx).1;rw[q1] at this;simpa[Value.cells] using this
  refine q3 i _ x ?_ hx;simp[Value.cells,bN,hi]
 ·cases bV
end
section
variable {t e : TypeId} {xs : List PD}
theorem aec(ht:P.underlying t=some (.slice e))(h:dV P t xs):xs=[.aI]∨xs=[.emp (P.cellsOf e)]∨
    ∃es,es≠[]∧es.length*P.bytesOf e≤reachBytes∧xs=[.slice (P.cellsOf e) es]∧(∀x∈es,dV P e x.cells)∧∀x∈es,x=nR P e x.cells:=by
 cases h with
 |bool _ b hb=>rw[ht] at hb;cases hb
 |int _ k n hb=>rw[ht] at hb;cases hb
 |str _ s hb=>rw[ht] at hb;cases hb
 |aI _ e' hb=>exact .inl rfl
 |emp _ e' hb=>rw[ht] at hb;cases hb;exact .inr (.inl rfl)
 |sl _ e' es aq hb hl h hs hm=>rw[ht] at hb;cases hb;exact .inr (.inr ⟨es,aq,hl,rfl,h,hm⟩)
 |struct _ fs parts hb=>rw[ht] at hb;cases hb
theorem vh{k:IntKind}(ht:P.underlying t=some (.int k))(h:dV P t xs):∃n,xs=[.int k n]∧(Lit.int k n).wf=true:=by
 cases h with
 |bool _ b hb=>rw[ht] at hb;cases hb
 |int _ k n hb hw=>rw[ht] at hb;cases hb;exact⟨n,rfl,hw⟩
 |str _ s hb=>rw[ht] at hb;cases hb
 |aI _ e' hb=>rw[ht] at hb;cases hb
 |emp _ e' hb=>rw[ht] at hb;cases hb
 |sl _ e' es aq hb hl h hs hm=>rw[ht] at hb;cases hb
 |struct _ fs parts hb=>rw[ht] at hb;cases hb
theorem M0(ht:P.underlying t=some .bool)(h:dV P t xs):∃b,xs=[.bool b]:=by
 cases h with
 |bool _ b hb=>exact⟨b,rfl⟩
 |int _ k n hb hw=>rw[ht] at hb;cases hb
 |str _ s hb=>rw[ht] at hb;cases hb
 |aI _ e' hb=>rw[ht] at hb;cases hb
 |emp _ e' hb=>rw[ht] at hb;cases hb
 |sl _ e' es aq hb hl h hs hm=>rw[ht] at hb;cases hb
 |struct _ fs parts hb=>rw[ht] at hb;cases hb
theorem Bc(ht:P.underlying t=some .string)(h:dV P t xs):∃s,xs=[.str s]∧s.length≤reachBytes:=by
 cases h with
 |bool _ b hb=>rw[ht] at hb;cases hb
 |int _ k n hb hw=>rw[ht] at hb;cases hb
 |str _ s hb hs=>exact⟨s,rfl,hs⟩
 |aI _ e' hb=>rw[ht] at hb;cases hb
 |emp _ e' hb=>rw[ht] at hb;cases hb
 |sl _ e' es aq hb hl h hs hm=>rw[ht] at hb;cases hb
 |struct _ fs parts hb=>rw[ht] at hb;cases hb
theorem rq{fs:Array Field}(ht:P.underlying t=some (.struct fs))(h:dV P t xs):∃parts:List (List PD),xs=parts.flatten∧parts.length=fs.size∧
    ∀(i:Nat) f p,fs[i]? =some f→parts[i]? =some p→dV P f.type p:=by
 cases h with
 |bool _ b hb=>rw[ht] at hb;cases hb
 |int _ k n hb hw=>rw[ht] at hb;cases hb
 |str _ s hb hs=>rw[ht] at hb;cases hb
 |aI _ e' hb=>rw[ht] at hb;cases hb
 |emp _ e' hb=>rw[ht] at hb;cases hb
 |sl _ e' es aq hb hl h hs hm=>rw[ht] at hb;cases hb
 |struct _ fs' parts hb hl h hs=>rw[ht] at hb;cases hb;exact⟨parts,rfl,hl,h⟩
end
theorem Ty{H:Type}{enc:TypeId×Value→H}{W:World}:∀{ts:List TypeId} {vs:List Value} {ds:List (DataW H)} {ps:List MemPlace},DataW.TrodAll enc P W 0 (fun _=>true) true ts vs ds ps→
    ∀(j:Nat) t v,ts[j]? =some t→vs[j]? =some v→∃d p,DataW.Trod enc P W 0 (fun _=>true) true t v d p∧ds[j]? =some d
 |[],[],[],_,_,j,t,v,ht,_=>by simp at ht
 |t::ts,v::vs,d::ds,ps,h,j,t',v',ht,hv=>by
  obtain⟨p,q,h1,h2,_⟩:=h;cases j with
  |zero=>cases ht;cases hv;exact⟨d,p,h1,rfl⟩
  |succ j=>exact Ty h2 j t' v' ht hv
 |[],[],_::_,_,h,_,_,_,_,_=>h.elim
 |[],_::_,_,_,h,_,_,_,_,_=>by cases h
 |_::_,[],_,_,h,_,_,_,_,_=>by cases h
 |_::_,_::_,[],_,h,_,_,_,_,_=>by cases h
end Go.Vs
namespace Go
variable {H : Type} {enc : TypeId × Value → H}
theorem Tz{P:Program}:∀{ts us:List TypeId} {ds gs:List (DataW H)},ts.length=ds.length→∀w∈DataW.weightsEach P ts ds,w∈DataW.weightsEach P (ts++us) (ds++gs)
 |[],_,[],_,_,w,h=>by simp[DataW.weightsEach] at h
 |t::ts,us,d::ds,gs,hl,w,h=>by
  simp only[DataW.weightsEach,cW,jN] at h⊢;exact h.imp id (Tz (by simpa using hl) w)
 |[],_,_::_,_,h,_,_=>by simp at h
 |_::_,_,[],_,h,_,_=>by simp at h
theorem TA{P:Program}{W:World}:∀{ts:List TypeId} {vs:List Value} {ds:List (DataW H)} {ps:List MemPlace},DataW.TrodAll enc P W 0 (fun _=>true) true ts vs ds ps→ts.length=ds.length
 |[],[],[],_,_=>rfl
 |t::ts,v::vs,d::ds,ps,h=>by
  obtain⟨p,q,_,h2,_⟩:=h;simp[TA h2]
 |[],[],_::_,_,h=>h.elim
 |[],_::_,_,_,h=>by cases h
 |_::_,[],_,_,h=>by cases h
 |_::_,_::_,[],_,h=>by cases h
theorem TB{a:Assume}{C:Checked}{os:Os}{f:FuncId}{fn:Func}{s:ChangeSpec}{conds:List PathCond}{apart fresh handsOn again:Bool}{X:World→Array Value→Prop}
    (hX:∀(w w':World) (args:Array Value),w.heap=w'.heap→X w args→X w' args)
    (own:ownKnob C.prog.godebug=none) (started:os.Started) (aed:C.prog.inits.idxOf? f=none) (qu:C.prog.funcs[f]? =some fn)
    (witness:∃(w:World) (tape:Tape) (i:Input),w.os=os∧(w.forCall tape i).Shaped C.prog∧i.vars=[]∧Input.okWide C.prog (w.forCall tape i) .any w.heap.size f i∧
     ((s.pre enc C.prog fn conds apart (w.forCall tape i).memory i.args∧X (w.forCall tape i).memory i.args)∧sizedMet enc C.prog fn (OpenSpec.ofChange s) apart (w.forCall tape i).memory i.args)∧a.holds C.prog (lone (Frame.enter C.prog f i.args .normal) [] (w.forCall tape i)))
    (contract:∀(W:World) (base:Nat) (args:Array Value) (ds gs:List (DataW H)) (before:List MemPlace),
     (∀(j:Nat) t v,fn.params[j]? =some t→args[j]? =some v→Value.okWide C.prog W .any base t v)→
     DataW.Whole enc C.prog fn.params.toList s.vars apart W args.toList ds gs before→(∀(j:Nat) t v,fn.params[j]? =some t→args[j]? =some v→∃d p,DataW.Trod enc C.prog W 0 (fun _=>true) true t v d p∧Vs.wO C.prog t d)→X W args→W.ShapedOpen C.prog→
     Calls C.prog f args W fun e W'=>∃v,e= .returned v∧s.post enc C.prog fn apart fresh handsOn again W args v W'):
    ReturnsInHanded a C os f .any (fun w args=>(s.pre enc C.prog fn conds apart w args∧X w args)∧sizedMet enc C.prog fn (OpenSpec.ofChange s) apart w args) (s.post enc C.prog fn apart fresh handsOn again):=by
 refine returnsInHanded_of_calls own started aed witness ?_;intro w tape i _ tr _ bV Ea _;obtain⟨_,_,_,TC,aee,_,_,_,_,hval⟩:=bV;have e:TC=fn:=oi (aee.symm.trans qu);subst e;obtain⟨⟨⟨ds,gs,before,hw,_⟩,hx⟩,aS⟩:=Ea;obtain⟨_,eG,gs',aoz,M1,eQ⟩:=aS;have hw3:=DataW.Whole.of_heap (w':=w.forCall tape i) (by rfl) M1;have aeh:∀(j:Nat) t v,TC.params[j]? =some t→i.args[j]? =some v→∃d p,DataW.Trod enc C.prog (w.forCall tape i) 0 (fun _=>true) true t v d p∧Vs.wO C.prog t d:=by
  obtain⟨p,q,hA,_⟩:=hw3;intro j t v ht hv;obtain⟨d,p',h1,h2⟩:=Vs.Ty hA j t v (by simpa using ht) (by simpa using hv);refine⟨d,p',h1,fun w' hw'=>?_⟩;have h3:=Tz (us:=(OpenSpec.ofChange s).bare.plain.varTypes C.prog) (gs:=gs') (TA hA) w' (Vs.MX (i:=j) (by simpa using ht) h2 hw');exact of_decide_eq_true (gI.1 eQ w' h3)
 have hw':=DataW.Whole.of_heap (w':=w.forCall tape i) (by rfl) hw;refine(contract (w.forCall tape i) w.heap.size i.args ds gs before hval hw' aeh (hX _ _ _ (by rfl) hx) tr).mono fun e W' ⟨v,he,hp⟩=>?_;subst he;exact ChangeSpec.post_blind hp
end Go
namespace Go.Vs
def bC.TD(c c':bC):Prop:=∀f a H r,av c f a H=some r→av c' f a H=some r
section
variable {c c' : bC} (h : bC.TD c c')
include h
end
section
variable {c c' : bC} (h : bC.TD c c') {i i' : It} (hi : It.le i i') {G : Nat → Option (List PD)} {T : Nat → Option (Nat × FC)}
include h hi
end
theorem tF{p:Pg}{f:Nat}{fc:FC}{a:List D}{H:Hp}{r:bt×Hp}(hl:p.lib f a H=none)(hf:p.F f=some fc)(hn:a.length=fc.np)
    (e:mO fc.aH H.bx.length (iT (call p) p.D p.G bf fc ⟨entry 0 a,H⟩)=some r):call p f a H=some r:=by
 cases hx:iT (call p) p.D p.G bf fc ⟨entry 0 a,H⟩ with
 |none=>rw[hx] at e;unfold mO at e;split at e<;>cases e
 |some x=>
  obtain⟨n,cO⟩:=Zc hx;refine x5.2 ⟨n+1,?_⟩;unfold fG
  try dsimp only
  rw[hl,hf]
  try dsimp only
  rw[if_pos hn,cO,←hx];exact e
end Go.Vs
namespace Go.Vs
theorem vk:∀(r l:List Nat) (x:Nat),x∈ins l r↔x∈l∨x∈r
 |[],l,x=>by simp[ins]
 |a::r,l,x=>by
  simp only[ins];split
  ·rename_i h;rw[vk r l x];have :a∈l:=by simpa using h
   constructor
   ·rintro (h |h)
    ·exact .inl h
    ·exact .inr (jD _ h)
   ·rintro (h |h)
    ·exact .inl h
    ·rcases cN.1 h with rfl |h
     ·exact .inl this
     ·exact .inr h
  ·rw[vk r _ x];simp[or_assoc]
theorem Ic:∀(r l:List Nat),l.Nodup→(ins l r).Nodup
 |[],l,h=>h
 |a::r,l,h=>by
  simp only[ins];split
  ·exact Ic r l h
  ·rename_i ha;refine Ic r _ ?_;have :a∉l:=by simpa using ha
   rw[YL];refine⟨h,by simp,?_⟩;intro x hx y hy;have :y=a:=by simpa using hy
   subst this;rintro rfl;contradiction
theorem M3:∀(r l:List Nat),l.length≤(ins l r).length
 |[],_=>aV _
 |a::r,l=>by
  simp only[ins];split
  ·exact M3 r l
  ·have:=M3 r (l++[a]);simp at this;omega
theorem TE:∀(r l:List Nat),(∀x∈r,x∈l)→ins l r=l
 |[],l,_=>rfl
 |a::r,l,h=>by
  simp only[ins];rw[if_pos (by simpa using h a (by simp))];exact TE r l fun x hx=>h x (jD _ hx)
theorem TF:∀(r l:List Nat),(∃x∈r,x∉l)→l.length<(ins l r).length
 |[],l,h=>by obtain⟨x,h,_⟩:=h;cases h
 |a::r,l,⟨x,hx,hn⟩=>by
  simp only[ins];split
  ·rename_i ha;have ha:a∈l:=by simpa using ha
   refine TF r l ⟨x,?_,hn⟩;rcases cN.1 hx with rfl |h
   ·contradiction
   ·exact h
  ·have:=M3 r (l++[a]);simp at this;omega
theorem Ee{H:Hp}:∀{l:List Nat} {x:Nat},x∈ef H l↔∃i∈l,∃cs,H.bx[i]? =some cs∧x∈D.aD cs
 |[],x=>by simp[ef]
 |a::r,x=>by
  simp only[ef,cW,Ee (l:=r),cN];constructor
  ·rintro (h |⟨i,h1,h2⟩)
   ·split at h
    ·rename_i cs hc;exact⟨a,.inl rfl,cs,hc,h⟩
    ·cases h
   ·exact⟨i,.inr h1,h2⟩
  ·rintro⟨i,rfl |h1,cs,h2,h3⟩
   ·left;rw[h2];exact h3
   ·exact .inr ⟨i,h1,cs,h2,h3⟩
def vn(H:Hp)(l:List Nat):Prop:=∀i∈l,∀cs:List D,H.bx[i]? =some cs→∀x∈D.aD cs,x∈l
theorem TG{H:Hp}{l:List Nat}(h:vn H l):∀n,reach H n l=l
 | 0=>rfl
 |n+1=>by
  simp only[reach];split
  ·rfl
  ·have :ins l (ef H l)=l:=TE _ _ fun x hx=>by
    obtain⟨i,h1,cs,h2,h3⟩:=Ee.1 hx;exact h i h1 cs h2 x h3
   rw[this];exact TG h n
def Hp.Ok(H:Hp):Prop:=∀(i:Nat) (cs:List D),H.bx[i]? =some cs→∀x∈D.aD cs,x<H.bx.length
theorem M4:∀(N:Nat) (l:List Nat),l.Nodup→(∀x∈l,x<N)→l.length≤N
 | 0,l,_,h=>by
  cases l with
  |nil=>simp
  |cons a r=>exact absurd (h a (by simp)) (by omega)
 |N+1,l,hn,h=>by
  have h1:=M4 N (l.erase N) (hn.erase N) fun x hx=>by
   have:=(hn.mem_erase_iff).1 hx;have:=h x this.2;omega
  rw[List.length_erase] at h1;split at h1<;>omega
theorem aei{N:Nat}{l:List Nat}(hn:l.Nodup)(hl:∀x∈l,x<N)(h:N≤l.length):∀x,x<N→x∈l:=by
 intro x hx;by_cases hm:x∈l
 ·exact hm
 ·exfalso;have h1:(x::l).Nodup:=vS.2 ⟨hm,hn⟩;have h2:∀y∈x::l,y<N:=fun y hy=>by
   rcases cN.1 hy with rfl |hy
   ·exact hx
   ·exact hl y hy
  have h3:=M4 N _ h1 h2;simp at h3;omega
theorem TH{H:Hp}(hH:H.Ok):∀(n:Nat) (l:List Nat),l.Nodup→(∀x∈l,x<H.bx.length)→H.bx.length≤n+l.length→
    (reach H n l).Nodup∧(∀x∈reach H n l,x<H.bx.length)∧(∀x∈l,x∈reach H n l)∧vn H (reach H n l)
 | 0,l,h1,h2,h3=>⟨h1,h2,fun _ h=>h,fun i _ cs hc x hx=>aei h1 h2 (by omega) x (hH i cs hc x hx)⟩
 |n+1,l,h1,h2,h3=>by
  by_cases hs:vn H l
  ·rw[TG hs];exact⟨h1,h2,fun _ h=>h,hs⟩
  ·have hex:∃x∈ef H l,x∉l:=by
    refine qD fun eU=>hs fun i hi cs hc x hx=>?_;refine qD fun oP=>eU ⟨x,Ee.2 ⟨i,hi,cs,hc,hx⟩,oP⟩
   have hg:=TF _ _ hex;have hv:∀x∈ins l (ef H l),x<H.bx.length:=fun x hx=>by
    rcases(vk _ _ _).1 hx with h |h
    ·exact h2 x h
    ·obtain⟨i,_,cs,h4,h5⟩:=Ee.1 h;exact hH i cs h4 x h5
   have ih:=TH hH n (ins l (ef H l)) (Ic _ _ h1) hv (by omega);have he:reach H (n+1) l=reach H n (ins l (ef H l)):=by
    simp only[reach];split
    ·rename_i hb;rw[hb] at hex;obtain⟨x,hx,_⟩:=hex;cases hx
    ·rfl
   rw[he];exact⟨ih.1,ih.2.1,fun x hx=>ih.2.2.1 x ((vk _ _ _).2 (.inl hx)),ih.2.2.2⟩
theorem TI{H:Hp}{P:Nat→Prop}(hP:∀(i:Nat) (cs:List D),P i→H.bx[i]? =some cs→∀x∈D.aD cs,P x):∀(n:Nat) (l:List Nat),(∀x∈l,P x)→∀x∈reach H n l,P x
 | 0,_,h=>h
 |n+1,l,h=>by
  simp only[reach];split
  ·exact h
  ·refine TI hP n _ fun x hx=>?_;rcases(vk _ _ _).1 hx with h1 |h1
   ·exact h x h1
   ·obtain⟨i,h2,cs,h3,h4⟩:=Ee.1 h1;exact hP i cs (h i h2) h3 x h4
mutual
def D.mv(g:Nat→Nat):D→D
 | .box i o=>.box (g i) o
 | .agg cs=>.agg (D.dn g cs)
 | .bA cs=>.bA (D.dn g cs)
 | .fn f a c=>.fn f (D.dn g a) (D.dn g c)
 | .bu i off n c sz=>.bu (g i) off n c sz
 | .eE t d=>.eE t (d.mv g)
 | .fN d=>.fN (d.mv g)
 | .fresh T n i=>.fresh T n (g i)
 | .bU i=>.bU (g i)
 | .bB kd ks vs=>.bB kd ks (D.dn g vs)
 | .aB i e n sz=>.aB (g i) e n sz
 |d=>d
def D.dn(g:Nat→Nat):List D→List D
 |[]=>[]
 |d::r=>d.mv g::D.dn g r
end
mutual
theorem Ef{bi ti:Nat→Option Nat}{g:Nat→Nat}:∀(d:D),(∀r∈d.refs,bi r=some (g r))→d.cJ=[]→d.ren bi ti=some (d.mv g)
 | .box i o,h,_=>by simp[D.ren,D.mv,h i (by simp[D.refs])]
 | .agg cs,h,t=>by simp[D.ren,D.mv,vo cs h t]
 | .bA cs,h,t=>by simp[D.ren,D.mv,vo cs h t]
 | .fn f a c,h,t=>by
  simp only[D.cJ,xJ] at t;simp only[D.refs,cW] at h;simp[D.ren,D.mv,vo a (fun r hr=>h r (.inl hr)) t.1,vo c (fun r hr=>h r (.inr hr)) t.2]
 | .bu i off n c sz,h,_=>by simp[D.ren,D.mv,h i (by simp[D.refs])]
 | .eE k d,h,t=>by simp[D.ren,D.mv,Ef d h t]
 | .fN d,h,t=>by simp[D.ren,D.mv,Ef d h t]
 | .fresh T n i,h,_=>by simp[D.ren,D.mv,h i (by simp[D.refs])]
 | .bU i,h,_=>by simp[D.ren,D.mv,h i (by simp[D.refs])]
 | .bB kd ks vs,h,t=>by simp[D.ren,D.mv,vo vs h t]
 | .aB i e n sz,h,_=>by simp[D.ren,D.mv,h i (by simp[D.refs])]
 | .bk _ _ _ _,_,t=>by simp[D.cJ] at t
 | .dead,_,_=>rfl
 | .undef,_,_=>rfl
 | .p _,_,_=>rfl
 | .cI _ _ _,_,_=>rfl
 | .eD _ _,_,_=>rfl
 | .ro _ _,_,_=>rfl
 | .ff _,_,_=>rfl
 | .iH,_,_=>rfl
 | .gK _ _,_,_=>rfl
theorem vo{bi ti:Nat→Option Nat}{g:Nat→Nat}:∀(ds:List D),(∀r∈D.aD ds,bi r=some (g r))→D.bz ds=[]→D.ba bi ti ds=some (D.dn g ds)
 |[],_,_=>rfl
 |d::ds,h,t=>by
  simp only[D.bz,xJ] at t;simp only[D.aD,cW] at h;simp[D.ba,D.dn,Ef d (fun r hr=>h r (.inl hr)) t.1,vo ds (fun r hr=>h r (.inr hr)) t.2]
end
theorem Bd(g:Nat→Nat):∀(ds:List D),D.dn g ds=ds.map (D.mv g)
 |[]=>rfl
 |d::ds=>by simp[D.dn,Bd g ds]
mutual
theorem Ie{bi ti:Nat→Option Nat}{g:Nat→Nat}(hg:∀r j,bi r=some j→j=g r):∀(d d':D),d.cJ=[]→d.ren bi ti=some d'→d'=d.mv g
 | .box i o,d',_,h=>by
  simp only[D.ren] at h;obtain⟨j,hj,rfl⟩:=au.1 h;simp[D.mv,hg _ _ hj]
 | .agg cs,d',t,h=>by
  simp only[D.ren] at h;obtain⟨j,hj,rfl⟩:=au.1 h;simp[D.mv,yR hg cs j t hj]
 | .bA cs,d',t,h=>by
  simp only[D.ren] at h;obtain⟨j,hj,rfl⟩:=au.1 h;simp[D.mv,yR hg cs j t hj]
 | .fn f a c,d',t,h=>by
  simp only[D.cJ,xJ] at t;simp only[D.ren] at h;split at h
  ·rename_i a' c' h1 h2;cases h;simp[D.mv,yR hg a a' t.1 h1,yR hg c c' t.2 h2]
  ·cases h
 | .bu i off n c sz,d',_,h=>by
  simp only[D.ren] at h;obtain⟨j,hj,rfl⟩:=au.1 h;simp[D.mv,hg _ _ hj]
 | .eE k d,d',t,h=>by
  simp only[D.ren] at h;obtain⟨j,hj,rfl⟩:=au.1 h;simp[D.mv,Ie hg d j t hj]
 | .fN d,d',t,h=>by
  simp only[D.ren] at h;obtain⟨j,hj,rfl⟩:=au.1 h;simp[D.mv,Ie hg d j t hj]
 | .fresh T n i,d',_,h=>by
  simp only[D.ren] at h;obtain⟨j,hj,rfl⟩:=au.1 h;simp[D.mv,hg _ _ hj]
 | .bU i,d',_,h=>by
  simp only[D.ren] at h;obtain⟨j,hj,rfl⟩:=au.1 h;simp[D.mv,hg _ _ hj]
 | .bB kd ks vs,d',t,h=>by
  simp only[D.ren] at h;obtain⟨j,hj,rfl⟩:=au.1 h;simp[D.mv,yR hg vs j t hj]
 | .aB i e n sz,d',_,h=>by
  simp only[D.ren] at h;obtain⟨j,hj,rfl⟩:=au.1 h;simp[D.mv,hg _ _ hj]
 | .bk _ _ _ _,_,t,_=>by simp[D.cJ] at t
 | .dead,_,_,h=>by cases h;rfl
 | .undef,_,_,h=>by cases h;rfl
 | .p _,_,_,h=>by cases h;rfl
 | .cI _ _ _,_,_,h=>by cases h;rfl
 | .eD _ _,_,_,h=>by cases h;rfl
 | .ro _ _,_,_,h=>by cases h;rfl
 | .ff _,_,_,h=>by cases h;rfl
 | .iH,_,_,h=>by cases h;rfl
 | .gK _ _,_,_,h=>by cases h;rfl
theorem yR{bi ti:Nat→Option Nat}{g:Nat→Nat}(hg:∀r j,bi r=some j→j=g r):∀(ds eG:List D),D.bz ds=[]→D.ba bi ti ds=some eG→eG=D.dn g ds
 |[],eG,_,h=>by cases h;rfl
 |d::ds,eG,t,h=>by
  simp only[D.bz,xJ] at t;simp only[D.ba] at h;split at h
  ·rename_i x hx;obtain⟨j,hj,rfl⟩:=au.1 h;simp[D.dn,Ie hg d x t.1 hx,yR hg ds j t.2 hj]
  ·cases h
end
mutual
theorem Ig{bi ti:Nat→Option Nat}:∀(d d':D),d.ren bi ti=some d'→∀r∈d.refs,∃j,bi r=some j
 | .box i o,d',h,r,hr=>by
  simp only[D.ren] at h;obtain⟨j,hj,rfl⟩:=au.1 h;simp only[D.refs,mH] at hr;exact⟨j,hr▸hj⟩
 | .agg cs,d',h,r,hr=>by
  simp only[D.ren] at h;obtain⟨j,hj,rfl⟩:=au.1 h;exact yS cs j hj r hr
 | .bA cs,d',h,r,hr=>by
  simp only[D.ren] at h;obtain⟨j,hj,rfl⟩:=au.1 h;exact yS cs j hj r hr
 | .fn f a c,d',h,r,hr=>by
  simp only[D.ren] at h;simp only[D.refs,cW] at hr;split at h
  ·rename_i a' c' h1 h2;rcases hr with hr |hr
   ·exact yS a a' h1 r hr
   ·exact yS c c' h2 r hr
  ·cases h
 | .bu i off n c sz,d',h,r,hr=>by
  simp only[D.ren] at h;obtain⟨j,hj,rfl⟩:=au.1 h;simp only[D.refs,mH] at hr;exact⟨j,hr▸hj⟩
 | .eE k d,d',h,r,hr=>by
  simp only[D.ren] at h;obtain⟨j,hj,rfl⟩:=au.1 h;exact Ig d j hj r hr
 | .fN d,d',h,r,hr=>by
  simp only[D.ren] at h;obtain⟨j,hj,rfl⟩:=au.1 h;exact Ig d j hj r hr
 | .fresh T n i,d',h,r,hr=>by
  simp only[D.ren] at h;obtain⟨j,hj,rfl⟩:=au.1 h;simp only[D.refs,mH] at hr;exact⟨j,hr▸hj⟩
 | .bU i,d',h,r,hr=>by
  simp only[D.ren] at h;obtain⟨j,hj,rfl⟩:=au.1 h;simp only[D.refs,mH] at hr;exact⟨j,hr▸hj⟩
 | .bB kd ks vs,d',h,r,hr=>by
  simp only[D.ren] at h;obtain⟨j,hj,rfl⟩:=au.1 h;exact yS vs j hj r hr
 | .aB i e n sz,d',h,r,hr=>by
  simp only[D.ren] at h;obtain⟨j,hj,rfl⟩:=au.1 h;simp only[D.refs,mH] at hr;exact⟨j,hr▸hj⟩
 | .bk _ _ _ _,_,_,_,hr=>by simp[D.refs] at hr
 | .dead,_,_,_,hr=>by simp[D.refs] at hr
 | .undef,_,_,_,hr=>by simp[D.refs] at hr
 | .p _,_,_,_,hr=>by simp[D.refs] at hr
 | .cI _ _ _,_,_,_,hr=>by simp[D.refs] at hr
 | .eD _ _,_,_,_,hr=>by simp[D.refs] at hr
 | .ro _ _,_,_,_,hr=>by simp[D.refs] at hr
 | .ff _,_,_,_,hr=>by simp[D.refs] at hr
 | .iH,_,_,_,hr=>by simp[D.refs] at hr
 | .gK _ _,_,_,_,hr=>by simp[D.refs] at hr
theorem yS{bi ti:Nat→Option Nat}:∀(ds eG:List D),D.ba bi ti ds=some eG→∀r∈D.aD ds,∃j,bi r=some j
 |[],_,_,r,hr=>by cases hr
 |d::ds,eG,h,r,hr=>by
  simp only[D.ba] at h;simp only[D.aD,cW] at hr;split at h
  ·rename_i x hx;obtain⟨j,hj,rfl⟩:=au.1 h;rcases hr with hr |hr
   ·exact Ig d x hx r hr
   ·exact yS ds j hj r hr
  ·cases h
end
theorem M5{bi ti:Nat→Option Nat}:∀(l l':List (List D)),aP (D.ba bi ti) l=some l'→∀cs∈l,∀r∈D.aD cs,∃j,bi r=some j
 |[],_,_,cs,hc=>by cases hc
 |c::l,l',h,cs,hc=>by
  simp only[aP] at h;split at h
  ·rename_i x hx;obtain⟨j,hj,rfl⟩:=au.1 h;rcases cN.1 hc with rfl |hc
   ·exact yS _ x hx
   ·exact M5 l j hj cs hc
  ·cases h
theorem Eg{bi ti:Nat→Option Nat}{g:Nat→Nat}:∀(l:List (List D)),(∀cs∈l,(∀r∈D.aD cs,bi r=some (g r))∧D.bz cs=[])→aP (D.ba bi ti) l=some (l.map (D.dn g))
 |[],_=>rfl
 |cs::l,h=>by
  simp[aP,vo cs (h cs (by simp)).1 (h cs (by simp)).2,Eg l fun x hx=>h x (jD _ hx)]
theorem M6{bi ti:Nat→Option Nat}{g:Nat→Nat}(hg:∀r j,bi r=some j→j=g r):∀(l l':List (List D)),(∀cs∈l,D.bz cs=[])→aP (D.ba bi ti) l=some l'→l'=l.map (D.dn g)
 |[],l',_,h=>by cases h;rfl
 |cs::l,l',t,h=>by
  simp only[aP] at h;split at h
  ·rename_i x hx;obtain⟨j,hj,rfl⟩:=au.1 h;simp[yR hg cs x (t cs (by simp)) hx,M6 hg l j (fun y hy=>t y (jD _ hy)) hj]
  ·cases h
def eI(ids:List Nat)(i:Nat):Nat:=(idx ids i).getD 0
def dR(ids:List Nat)(N j:Nat):Nat:=if j<ids.length then ids.getD j 0 else N+(j-ids.length)
theorem M7{ids:List Nat}{i:Nat}(h:i∈ids):idx ids i=some (eI ids i):=by
 unfold eI;cases hx:idx ids i with
 |none=>exact absurd h (Rf hx)
 |some j=>rfl
theorem yT{ids:List Nat}{i:Nat}(h:i∈ids):ids[eI ids i]? =some i:=G0 (M7 h)
theorem aej{ids:List Nat}{N i:Nat}(h:i∈ids):dR ids N (eI ids i)=i:=by
 have h1:=yT h;obtain⟨h2,h3⟩:=az.1 h1;simp[dR,h2,fE,h3]
def sF(H:Hp)(ids:List Nat):Hp:=⟨ids.map fun i=>D.dn (eI ids) (H.bx.getD i []),[]⟩
theorem TJ{α β:Type}{f:α→Option β}{g:α→β}:∀(l:List α),(∀a∈l,f a=some (g a))→aP f l=some (l.map g)
 |[],_=>rfl
 |a::l,h=>by simp[aP,h a (by simp),TJ l fun x hx=>h x (jD _ hx)]
theorem TK{H:Hp}:∀(l:List Nat),(∀(i:Nat) (cs:List D),H.bx[i]? =some cs→D.bz cs=[])→fX H l=[]
 |[],_=>rfl
 |i::l,h=>by
  simp only[fX,TK l h,lA];split
  ·rename_i cs hc;exact h i cs hc
  ·rfl
theorem TL:∀{l:List Nat},l.Nodup→nodupB l=true
 |[],_=>rfl
 |a::l,h=>by
  obtain⟨h1,h2⟩:=vS.1 h;simp[nodupB,TL h2,h1]
theorem aek{c:bC}{f:Nat}{args:List D}{H:Hp}(hH:H.Ok)(ht:D.bz args=[])(hT:∀(i:Nat) (cs:List D),H.bx[i]? =some cs→D.bz cs=[])(ha:∀x∈D.aD args,x<H.bx.length):
    ∃ids,ids.Nodup∧(∀x∈ids,x<H.bx.length)∧(∀x∈D.aD args,x∈ids)∧vn H ids∧
     (∀P:Nat→Prop,(∀x∈D.aD args,P x)→(∀(i:Nat) (cs:List D),P i→H.bx[i]? =some cs→∀x∈D.aD cs,P x)→∀x∈ids,P x)∧
     ∀d Hs,c f (D.dn (eI ids) args) (sF H ids)=some (.val d,Hs)→ids.length≤Hs.bx.length→Hs.Ok→(∀cs∈Hs.bx,D.bz cs=[])→(∀x∈d.refs,x<Hs.bx.length)→d.cJ=[]→
      ∃k,((k=0∧(∀x∈d.refs,x<ids.length)∧∀cs∈Hs.bx.take ids.length,∀x∈D.aD cs,x<ids.length)∨k=Hs.bx.length-ids.length)∧
       av c f args H=some (.val (d.mv (dR ids H.bx.length)),⟨cq H.bx ids ((Hs.bx.take ids.length).map (D.dn (dR ids H.bx.length)))++((Hs.bx.drop ids.length).map (D.dn (dR ids H.bx.length))).take k,H.tk⟩):=by
 obtain⟨q1,q2,q3,q4⟩:=TH hH H.bx.length (ins [] (D.aD args)) (Ic _ _ Kg) (fun x hx=>by
  rcases(vk _ _ _).1 hx with h |h
  ·cases h
  ·exact ha x h) (by omega)
 refine⟨_,q1,q2,fun x hx=>q3 x ((vk _ _ _).2 (.inr hx)),q4,fun P p1 p2=>TI p2 _ _ fun x hx=>by
  rcases(vk _ _ _).1 hx with h |h
  ·cases h
  ·exact p1 x h,?_⟩
 have Ih:∀x∈D.aD args,x∈reach H H.bx.length (ins [] (D.aD args)):=fun x hx=>q3 x ((vk _ _ _).2 (.inr hx));unfold av;dsimp only;generalize reach H H.bx.length (ins [] (D.aD args))=ids at *;intro d Hs hc hlen bV TM hdr oQ;have e1:fX H ids=[]:=TK _ hT;have e2:D.ba (idx ids) (idx []) args=some (D.dn (eI ids) args):=vo _ (fun r hr=>M7 (Ih r hr)) ht;simp only[ht,e1,lA,ins,TL q1,nodupB,Kh,if_true,e2,aP];rw[TJ (g:=fun i=>D.dn (eI ids) (H.bx.getD i [])) ids (by
  intro i hi;have hl:=q2 i hi;have hg:H.bx[i]? =some H.bx[i]:=aA hl;have yU:H.bx.getD i []=H.bx[i]:=by simp[fE,hg]
  simp only[hg,yU];exact vo _ (fun r hr=>M7 (q4 i hi _ hg r hr)) (hT i _ hg))]
 have kX:c f (D.dn (eI ids) args) ⟨ids.map fun i=>D.dn (eI ids) (H.bx.getD i []),[]⟩=some (.val d,Hs):=hc;dsimp only;rw[kX];dsimp only;unfold back;have f1:gM Hs.bx ids.length=some (Hs.bx.take ids.length):=by simp[gM,hlen]
 have f2:gM Hs.tk ([]:List Nat).length=some []:=by simp[gM]
 rw[f1,f2];dsimp only;have ai:∀r j,(fun i=>ids[i]?) r=some j→j=dR ids H.bx.length r:=fun r j h=>by
  obtain⟨h2,h3⟩:=az.1 h;simp[dR,h2,fE,h3]
 have M8:∀cs∈Hs.bx.take ids.length,D.bz cs=[]:=fun cs ak=>TM cs (j8 ak);have ei:∀cs∈Hs.bx,∀r∈D.aD cs,r<Hs.bx.length:=fun cs ak r hr=>by
  obtain⟨i,hi⟩:=eC ak;exact bV i cs hi r hr
 have aC:∀r,r<Hs.bx.length→(if r<ids.length then ids[r]? else some (H.bx.length+(r-ids.length)))=some (dR ids H.bx.length r):=fun r _=>by
  unfold dR;split
  ·rename_i h;simp[fE,h]
  ·rfl
 split
 ·rename_i r' mM h1 h2;obtain⟨d',bH,rfl⟩:=au.1 h1;have ah:∀x j,(fun i=>ids[i]?) x=some j→x<ids.length:=fun x j h=>(az.1 h).1;refine⟨0,.inl ⟨rfl,fun x hx=>?_,fun cs ak x hx=>?_⟩,?_⟩
  ·obtain⟨j,hj⟩:=Ig d d' bH x hx;exact ah x j hj
  ·obtain⟨j,hj⟩:=M5 _ mM h2 cs ak x hx;exact ah x j hj
  rw[Ie ai d d' oQ bH,M6 ai _ mM M8 h2];simp[cq]
 ·rename_i eU;have aq:Hs.bx.drop ids.length≠[]:=fun h=>by
   have hl:Hs.bx.length=ids.length:=by
    have:=List.drop_eq_nil_iff.1 h;omega
   have dW:∀r,r<Hs.bx.length→(fun i=>ids[i]?) r=some (dR ids H.bx.length r):=fun r hr=>by
    have :r<ids.length:=by omega
    simp[dR,fE,this]
   refine eU _ _ (by simp only[bt.ren];rw[Ef d (fun r hr=>dW r (hdr r hr)) oQ];rfl) (Eg _ fun cs ak=>⟨fun r hr=>dW r (ei cs (j8 ak) r hr),M8 cs ak⟩)
  refine⟨Hs.bx.length-ids.length,.inr rfl,?_⟩;have g1:bt.ren (fun i=>if i<ids.length then ids[i]? else some (H.bx.length+(i-ids.length))) (fun t=>([]:List Nat)[t]?) (.val d)=some (.val (d.mv (dR ids H.bx.length))):=by
   simp only[bt.ren];rw[Ef d (fun r hr=>aC r (hdr r hr)) oQ];rfl
  have g2:=Eg (bi:=fun i=>if i<ids.length then ids[i]? else some (H.bx.length+(i-ids.length))) (ti:=fun t=>([]:List Nat)[t]?) (g:=dR ids H.bx.length) (Hs.bx.take ids.length) fun cs ak=>⟨fun r hr=>aC r (ei cs (j8 ak) r hr),M8 cs ak⟩;have g3:=Eg (bi:=fun i=>if i<ids.length then ids[i]? else some (H.bx.length+(i-ids.length))) (ti:=fun t=>([]:List Nat)[t]?) (g:=dR ids H.bx.length) (Hs.bx.drop ids.length) fun cs ak=>⟨fun r hr=>aC r (ei cs (sU ak) r hr),TM cs (sU ak)⟩;rw[g1,g2,g3];cases hd:Hs.bx.drop ids.length with
  |nil=>exact absurd hd aq
  |cons n0 nw=>
   have rh:Hs.bx.length-ids.length=(n0::nw).length:=by rw[←hd,vR]
   rw[rh];simp[cq];rw[jC (by simp)]
mutual
theorem Ii{g h:Nat→Nat}:∀(d:D),(∀r∈d.refs,h (g r)=r)→(d.mv g).mv h=d
 | .box i o,q=>by simp[D.mv,q i (by simp[D.refs])]
 | .agg cs,q=>by simp[D.mv,Be cs q]
 | .bA cs,q=>by simp[D.mv,Be cs q]
 | .fn f a c,q=>by
  simp only[D.refs,cW] at q;simp[D.mv,Be a fun r hr=>q r (.inl hr),Be c fun r hr=>q r (.inr hr)]
 | .bu i off n c sz,q=>by simp[D.mv,q i (by simp[D.refs])]
 | .eE k d,q=>by simp[D.mv,Ii d q]
 | .fN d,q=>by simp[D.mv,Ii d q]
 | .fresh T n i,q=>by simp[D.mv,q i (by simp[D.refs])]
 | .bU i,q=>by simp[D.mv,q i (by simp[D.refs])]
 | .bB kd ks vs,q=>by simp[D.mv,Be vs q]
 | .aB i e n sz,q=>by simp[D.mv,q i (by simp[D.refs])]
 | .bk _ _ _ _,_=>rfl
 | .dead,_=>rfl
 | .undef,_=>rfl
 | .p _,_=>rfl
 | .cI _ _ _,_=>rfl
 | .eD _ _,_=>rfl
 | .ro _ _,_=>rfl
 | .ff _,_=>rfl
 | .iH,_=>rfl
 | .gK _ _,_=>rfl
theorem Be{g h:Nat→Nat}:∀(ds:List D),(∀r∈D.aD ds,h (g r)=r)→D.dn h (D.dn g ds)=ds
 |[],_=>rfl
 |d::ds,q=>by
  simp only[D.aD,cW] at q;simp[D.dn,Ii d fun r hr=>q r (.inl hr),Be ds fun r hr=>q r (.inr hr)]
end
mutual
theorem M9{g:Nat→Nat}:∀(d:D),(d.mv g).refs=d.refs.map g
 | .box i o=>rfl
 | .agg cs=>by simp[D.mv,D.refs,wP cs]
 | .bA cs=>by simp[D.mv,D.refs,wP cs]
 | .fn f a c=>by simp[D.mv,D.refs,wP a,wP c]
 | .bu i off n c sz=>rfl
 | .eE k d=>by simp[D.mv,D.refs,M9 d]
 | .fN d=>by simp[D.mv,D.refs,M9 d]
 | .fresh T n i=>rfl
 | .bU i=>rfl
 | .bB kd ks vs=>by simp[D.mv,D.refs,wP vs]
 | .aB i e n sz=>rfl
 | .bk _ _ _ _=>rfl
 | .dead=>rfl
 | .undef=>rfl
 | .p _=>rfl
 | .cI _ _ _=>rfl
 | .eD _ _=>rfl
 | .ro _ _=>rfl
 | .ff _=>rfl
 | .iH=>rfl
 | .gK _ _=>rfl
theorem wP{g:Nat→Nat}:∀(ds:List D),D.aD (D.dn g ds)=(D.aD ds).map g
 |[]=>rfl
 |d::ds=>by simp[D.dn,D.aD,M9 d,wP ds]
end
mutual
theorem Na{g:Nat→Nat}:∀(d:D),(d.mv g).cJ=d.cJ
 | .box i o=>rfl
 | .agg cs=>by simp[D.mv,D.cJ,wQ cs]
 | .bA cs=>by simp[D.mv,D.cJ,wQ cs]
 | .fn f a c=>by simp[D.mv,D.cJ,wQ a,wQ c]
 | .bu i off n c sz=>rfl
 | .eE k d=>by simp[D.mv,D.cJ,Na d]
 | .fN d=>by simp[D.mv,D.cJ,Na d]
 | .fresh T n i=>rfl
 | .bU i=>rfl
 | .bB kd ks vs=>by simp[D.mv,D.cJ,wQ vs]
 | .aB i e n sz=>rfl
 | .bk _ _ _ _=>rfl
 | .dead=>rfl
 | .undef=>rfl
 | .p _=>rfl
 | .cI _ _ _=>rfl
 | .eD _ _=>rfl
 | .ro _ _=>rfl
 | .ff _=>rfl
 | .iH=>rfl
 | .gK _ _=>rfl
theorem wQ{g:Nat→Nat}:∀(ds:List D),D.bz (D.dn g ds)=D.bz ds
 |[]=>rfl
 |d::ds=>by simp[D.dn,D.bz,Na d,wQ ds]
end
mutual
theorem Nb:∀(d:D),d.mv id=d
 | .box i o=>rfl
 | .agg cs=>by simp[D.mv,wR cs]
 | .bA cs=>by simp[D.mv,wR cs]
 | .fn f a c=>by simp[D.mv,wR a,wR c]
 | .bu i off n c sz=>rfl
 | .eE k d=>by simp[D.mv,Nb d]
 | .fN d=>by simp[D.mv,Nb d]
 | .fresh T n i=>rfl
 | .bU i=>rfl
 | .bB kd ks vs=>by simp[D.mv,wR vs]
 | .aB i e n sz=>rfl
 | .bk _ _ _ _=>rfl
 | .dead=>rfl
 | .undef=>rfl
 | .p _=>rfl
 | .cI _ _ _=>rfl
 | .eD _ _=>rfl
 | .ro _ _=>rfl
 | .ff _=>rfl
 | .iH=>rfl
 | .gK _ _=>rfl
theorem wR:∀(ds:List D),D.dn id ds=ds
 |[]=>rfl
 |d::ds=>by simp[D.dn,Nb d,wR ds]
end
end Go.Vs
