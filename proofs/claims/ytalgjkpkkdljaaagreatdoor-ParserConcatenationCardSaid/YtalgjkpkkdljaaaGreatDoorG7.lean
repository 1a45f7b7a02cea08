/-
  A value-level evaluator for Go functions; the functions of this cut by it; plain laws. Part 7 of 7.
-/
import Derived.Test.YtalgjkpkkdljaaaGreatDoorG6
import Derived.Test.YtalgjkpkkdljaaaGreatDoorG4
namespace Go.Proofs.YtalgjkpkkdljaaaGreatDoor
open Go.Vs
structure SpT (v0 v1 v2 v3:List PD) (q:Sp):Prop where
 S:v0=q.S.map sPD
 F:v1=q.F.map fPD
 P:v2=q.P.map pPD
 A:v3=q.A.map aPD
def stS(x:List PD)(v0 v1 v2 v3:List PD)(k i:Nat):St:=⟨[(2,.p (.bool false)),(3,.box 0 0),(4,.box 1 0),(k,.p (.int .i64 i))],⟨[x.map .p,[.tsl 0 81 2 v0,.tsl 1 70 3 v1,.tsl 2 41 7 v2,.tsl 3 44 6 v3]],[v0.length,v1.length,v2.length,v3.length]⟩⟩
def StQ(x:List PD)(v0 v1 v2 v3:List PD)(s':St):Prop:=s'.hp=⟨[x.map .p,[.tsl 0 81 2 v0,.tsl 1 70 3 v1,.tsl 2 41 7 v2,.tsl 3 44 6 v3]],[v0.length,v1.length,v2.length,v3.length]⟩∧s'.env.get 2= .p (.bool false)∧s'.env.get 3= .box 0 0∧s'.env.get 4= .box 1 0
theorem tslR{t e sz:Nat}{l:List PD}{i:Nat}{x:PD}(h:l[i]? =some x):iaddrD none sz (.tsl t e sz l) (i:Int)=some (.ro x.cells 0):=by
 simp[iaddrD,D.elems?,h]
section
variable (x0 x1 x2 x3 : PD) (v0 v1 v2 v3 : List PD) (q q' : Sp) (hr : SpR x0 x1 x2 x3 q) (hr' : SpT v0 v1 v2 v3 q') (hn : SpN q) (hq : EQ q q')
include hr in
theorem st_end0:∃s',evS (call pg) pg.G iterX fc28_b0 (stS [x0,x1,x2,x3] v0 v1 v2 v3 7 q.S.length)=some (.exit 0,s')∧StQ [x0,x1,x2,x3] v0 v1 v2 v3 s':=by
 have hl:=hr.S.len
 rw[List.length_map] at hl
 refine⟨?_,?_,?_⟩
 rotate_left
 ·simp only[stS,List.map_cons,List.map_nil]
  simp[fc28_b0,evKC,evK,put,Env.get,Env.keep,Opd.ev,cutAt,binD,List.map,ld_zero,hl]
  rfl
 ·exact⟨rfl,rfl,rfl,rfl⟩
include hr hr' hn hq in
theorem st_step0{i:Nat}(hi:i<q.S.length):evS (call pg) pg.G iterX fc28_b0 (stS [x0,x1,x2,x3] v0 v1 v2 v3 7 i)=some (.norm,stS [x0,x1,x2,x3] v0 v1 v2 v3 7 (i+1)):=by
 have hl:=hr.S.len
 rw[List.length_map] at hl
 have hlt:(i:Int)<(q.S.length:Int):=by omega
 have hw:=inc64 (k:=i) (by have:=hn.S;omega)
 have ek:((i+1 :Nat):Int)=(i:Int)+1:=rfl
 rw[ek] at hw
 have hx:=hr.S.at_ i (sPD q.S[i]) (by simp[hi])
 have hy:=fun t e sz=>tslR (t:=t) (e:=e) (sz:=sz) (l:=v0) (i:=i) (x:=sPD q.S[i]) (by rw[hr'.S,hq.S];simp[hi])
 simp only[sPD,PD.cells] at hx hy
 have l2:=fun G H=>ld_ag2 (G:=G) (H:=H) (.str q.S[i].1) (.bool q.S[i].2)
 simp only[stS,List.map_cons,List.map_nil,ek]
 simp[fc28_b0,evKC,evK,put,Env.get,Env.keep,Opd.ev,cutAt,D.asInt?,binD,eqvL,PD.eqv,clsP,cls,clsR,isCl,isW,apartRW,offB,apartWW,clash,insOk,List.map,ld_succ,ld_zero,hl,hlt,hw,hx,hy,l2]
include hr in
theorem st_end1:∃s',evS (call pg) pg.G iterX fc28_b1 (stS [x0,x1,x2,x3] v0 v1 v2 v3 8 q.F.length)=some (.exit 2,s')∧StQ [x0,x1,x2,x3] v0 v1 v2 v3 s':=by
 have hl:=hr.F.len
 rw[List.length_map] at hl
 refine⟨?_,?_,?_⟩
 rotate_left
 ·simp only[stS,List.map_cons,List.map_nil]
  simp[fc28_b1,evKC,evK,put,Env.get,Env.keep,Opd.ev,cutAt,binD,mapO,D.renL,D.ren,locD,below,Out.ren,List.map,ld_zero,hl]
  rfl
 ·exact⟨rfl,rfl,rfl,rfl⟩
include hr hr' hn hq in
theorem st_step1{i:Nat}(hi:i<q.F.length):evS (call pg) pg.G iterX fc28_b1 (stS [x0,x1,x2,x3] v0 v1 v2 v3 8 i)=some (.norm,stS [x0,x1,x2,x3] v0 v1 v2 v3 8 (i+1)):=by
 have hl:=hr.F.len
 rw[List.length_map] at hl
 have hlt:(i:Int)<(q.F.length:Int):=by omega
 have hw:=inc64 (k:=i) (by have:=hn.F;omega)
 have ek:((i+1 :Nat):Int)=(i:Int)+1:=rfl
 rw[ek] at hw
 have hx:=hr.F.at_ i (fPD q.F[i]) (by simp[hi])
 have hy:=fun t e sz=>tslR (t:=t) (e:=e) (sz:=sz) (l:=v1) (i:=i) (x:=fPD q.F[i]) (by rw[hr'.F,hq.F];simp[hi])
 have hm:q.F[i]∈q.F:=List.getElem_mem hi
 generalize q.F[i]=x at *
 have hc:(fPD x).cells=[.str x.1,.slice 1 (x.2.1.map iPD),.bool x.2.2]:=by simp[fPD,PD.cells]
 rw[hc] at hx hy
 have lA:=fun G H=>ld_c (G:=G) (H:=H) (l:=[.str x.1,.slice 1 (x.2.1.map iPD),.bool x.2.2]) (o:=0) rfl rfl
 have lB:=fun G H=>ld_c (G:=G) (H:=H) (l:=[.str x.1,.slice 1 (x.2.1.map iPD),.bool x.2.2]) (o:=1) rfl rfl
 have lC:=fun G H=>ld_c (G:=G) (H:=H) (l:=[.str x.1,.slice 1 (x.2.1.map iPD),.bool x.2.2]) (o:=2) rfl rfl
 have hcall:=ints_eq (row_slice 1 (x.2.1.map iPD)) (row_slice 1 (x.2.1.map iPD)) (hn.fn _ hm)
 simp only[stS,List.map_cons,List.map_nil,ek]
 simp[fc28_b1,evKC,evK,evGuard,put,Env.get,Env.keep,Opd.ev,cutAt,D.asInt?,binD,strBin,unD,clsP,cls,clsR,isCl,isW,apartRW,offB,apartWW,clash,insOk,mapO,D.refsL,D.refs,D.toksL,D.toks,eqD,D.renL,D.ren,locD,below,Out.ren,List.map,ld_succ,ld_zero,hl,hlt,hw,hx,hy,lA,lB,lC,hcall]
include hr in
theorem st_end2:∃s',evS (call pg) pg.G iterX fc28_b2 (stS [x0,x1,x2,x3] v0 v1 v2 v3 9 q.P.length)=some (.exit 4,s')∧StQ [x0,x1,x2,x3] v0 v1 v2 v3 s':=by
 have hl:=hr.P.len
 rw[List.length_map] at hl
 refine⟨?_,?_,?_⟩
 rotate_left
 ·simp only[stS,List.map_cons,List.map_nil]
  simp[fc28_b2,evKC,evK,put,Env.get,Env.keep,Opd.ev,cutAt,binD,mapO,D.renL,D.ren,locD,below,Out.ren,List.map,ld_zero,hl]
  rfl
 ·exact⟨rfl,rfl,rfl,rfl⟩
include hr hr' hn hq in
theorem st_step2{i:Nat}(hi:i<q.P.length):evS (call pg) pg.G iterX fc28_b2 (stS [x0,x1,x2,x3] v0 v1 v2 v3 9 i)=some (.norm,stS [x0,x1,x2,x3] v0 v1 v2 v3 9 (i+1)):=by
 have hl:=hr.P.len
 rw[List.length_map] at hl
 have hlt:(i:Int)<(q.P.length:Int):=by omega
 have hw:=inc64 (k:=i) (by have:=hn.P;omega)
 have ek:((i+1 :Nat):Int)=(i:Int)+1:=rfl
 rw[ek] at hw
 obtain⟨y,hy0,he⟩:=map_two hq.P hi
 have hx:=hr.P.at_ i (pPD q.P[i]) (by simp[hi])
 have hy:=fun t e sz=>tslR (t:=t) (e:=e) (sz:=sz) (l:=v2) (i:=i) (x:=pPD y) (by rw[hr'.P];simp[hy0])
 have hm:q.P[i]∈q.P:=List.getElem_mem hi
 generalize q.P[i]=x at *
 obtain⟨n,ps,a⟩:=x
 obtain⟨n',ps',a'⟩:=y
 simp only[eP,Prod.mk.injEq] at he
 obtain⟨rfl,rfl,he⟩:=he
 have hc:∀b:Nd,(pPD (n,ps,b)).cells= .str n:: .slice 2 (ps.map mPD)::b.cells:=fun b=>by simp[pPD,PD.cells]
 rw[hc] at hx hy
 have lA:=fun G H (b:Nd)=>ld_c (G:=G) (H:=H) (l:=.str n:: .slice 2 (ps.map mPD)::b.cells) (o:=0) rfl rfl
 have lB:=fun G H (b:Nd)=>ld_c (G:=G) (H:=H) (l:=.str n:: .slice 2 (ps.map mPD)::b.cells) (o:=1) rfl rfl
 have lC:=fun G H (b:Nd)=>ld_ro2 (G:=G) (H:=H) (.str n) (.slice 2 (ps.map mPD)) b
 have hcall:=params_eq (row_slice 2 (ps.map mPD)) (row_slice 2 (ps.map mPD)) (hn.pn _ hm)
 have hsame:=same_er 1000000000 a a' (hn.ps _ hm) (Nat.le_refl _) he
 simp only[stS,List.map_cons,List.map_nil,ek]
 simp[fc28_b2,evKC,evK,evGuard,put,Env.get,Env.keep,Opd.ev,cutAt,D.asInt?,binD,strBin,unD,clsP,cls,clsR,isCl,isW,apartRW,offB,apartWW,clash,insOk,mapO,D.refsL,D.refs,D.toksL,D.toks,D.renL,D.ren,locD,below,Out.ren,List.map,ld_succ,ld_zero,hl,hlt,hw,hx,hy,lA,lB,lC,hcall,hsame]
include hr in
theorem st_end3:∃s',evS (call pg) pg.G iterX fc28_b3 (stS [x0,x1,x2,x3] v0 v1 v2 v3 10 q.A.length)=some (.exit 6,s')∧StQ [x0,x1,x2,x3] v0 v1 v2 v3 s':=by
 have hl:=hr.A.len
 rw[List.length_map] at hl
 refine⟨?_,?_,?_⟩
 rotate_left
 ·simp only[stS,List.map_cons,List.map_nil]
  simp[fc28_b3,evKC,evK,put,Env.get,Env.keep,Opd.ev,cutAt,binD,mapO,D.renL,D.ren,locD,below,Out.ren,List.map,ld_zero,hl]
  rfl
 ·exact⟨rfl,rfl,rfl,rfl⟩
include hr hr' hn hq in
theorem st_step3{i:Nat}(hi:i<q.A.length):evS (call pg) pg.G iterX fc28_b3 (stS [x0,x1,x2,x3] v0 v1 v2 v3 10 i)=some (.norm,stS [x0,x1,x2,x3] v0 v1 v2 v3 10 (i+1)):=by
 have hl:=hr.A.len
 rw[List.length_map] at hl
 have hlt:(i:Int)<(q.A.length:Int):=by omega
 have hw:=inc64 (k:=i) (by have:=hn.A;omega)
 have ek:((i+1 :Nat):Int)=(i:Int)+1:=rfl
 rw[ek] at hw
 obtain⟨y,hy0,he⟩:=map_two hq.A hi
 have hx:=hr.A.at_ i (aPD q.A[i]) (by simp[hi])
 have hy:=fun t e sz=>tslR (t:=t) (e:=e) (sz:=sz) (l:=v3) (i:=i) (x:=aPD y) (by rw[hr'.A];simp[hy0])
 have hm:q.A[i]∈q.A:=List.getElem_mem hi
 generalize q.A[i]=x at *
 obtain⟨n,a⟩:=x
 obtain⟨n',a'⟩:=y
 simp only[eA,Prod.mk.injEq] at he
 obtain⟨rfl,he⟩:=he
 have hc:∀b:Nd,(aPD (n,b)).cells= .str n::b.cells:=fun b=>by simp[aPD,PD.cells]
 rw[hc] at hx hy
 have lA:=fun G H (b:Nd)=>ld_c (G:=G) (H:=H) (l:=.str n::b.cells) (o:=0) rfl rfl
 have lC:=fun G H (b:Nd)=>ld_ro1 (G:=G) (H:=H) (.str n) b
 have hsame:=same_er 1000000000 a a' (hn.az _ hm) (Nat.le_refl _) he
 simp only[stS,List.map_cons,List.map_nil,ek]
 simp[fc28_b3,evKC,evK,evGuard,put,Env.get,Env.keep,Opd.ev,cutAt,D.asInt?,binD,strBin,unD,clsP,cls,clsR,isCl,isW,apartRW,offB,apartWW,clash,insOk,mapO,D.refsL,D.refs,D.toksL,D.toks,D.renL,D.ren,locD,below,Out.ren,List.map,ld_succ,ld_zero,hl,hlt,hw,hx,hy,lA,lC,hsame]
include hr hr' hn hq in
theorem st_eq:∃Hl:Hp,Hl.tk=[v0.length,v1.length,v2.length,v3.length]∧call pg 28 [.p (.agg [x0,x1,x2,x3]),.agg [.tsl 0 81 2 v0,.tsl 1 70 3 v1,.tsl 2 41 7 v2,.tsl 3 44 6 v3],.p (.bool false)] ⟨[],[v0.length,v1.length,v2.length,v3.length]⟩=some (.val (.p (.bool true)),Hl):=by
 obtain⟨s0,e0,h0,u0,f0,w0⟩:=lp_well (keep:=[2,3,4,7]) (b:=fc28_b0) (n:=q.S.length) (P:=stS [x0,x1,x2,x3] v0 v1 v2 v3 7) (o:=0) (Q:=StQ [x0,x1,x2,x3] v0 v1 v2 v3) (fun _=>rfl) (st_end0 x0 x1 x2 x3 v0 v1 v2 v3 q hr) (fun i hi=>st_step0 x0 x1 x2 x3 v0 v1 v2 v3 q q' hr hr' hn hq hi) q.S.length 0 (by omega) (by omega)
 obtain⟨env0,hp0⟩:=s0
 simp only at h0 u0 f0 w0
 subst h0
 obtain⟨s1,e1,h1,u1,f1,w1⟩:=lp_well (keep:=[2,3,4,8]) (b:=fc28_b1) (n:=q.F.length) (P:=stS [x0,x1,x2,x3] v0 v1 v2 v3 8) (o:=2) (Q:=StQ [x0,x1,x2,x3] v0 v1 v2 v3) (fun _=>rfl) (st_end1 x0 x1 x2 x3 v0 v1 v2 v3 q hr) (fun i hi=>st_step1 x0 x1 x2 x3 v0 v1 v2 v3 q q' hr hr' hn hq hi) q.F.length 0 (by omega) (by omega)
 obtain⟨env1,hp1⟩:=s1
 simp only at h1 u1 f1 w1
 subst h1
 obtain⟨s2,e2,h2,u2,f2,w2⟩:=lp_well (keep:=[2,3,4,9]) (b:=fc28_b2) (n:=q.P.length) (P:=stS [x0,x1,x2,x3] v0 v1 v2 v3 9) (o:=4) (Q:=StQ [x0,x1,x2,x3] v0 v1 v2 v3) (fun _=>rfl) (st_end2 x0 x1 x2 x3 v0 v1 v2 v3 q hr) (fun i hi=>st_step2 x0 x1 x2 x3 v0 v1 v2 v3 q q' hr hr' hn hq hi) q.P.length 0 (by omega) (by omega)
 obtain⟨env2,hp2⟩:=s2
 simp only at h2 u2 f2 w2
 subst h2
 obtain⟨s3,e3,h3,u3,f3,w3⟩:=lp_well (keep:=[2,3,4,10]) (b:=fc28_b3) (n:=q.A.length) (P:=stS [x0,x1,x2,x3] v0 v1 v2 v3 10) (o:=6) (Q:=StQ [x0,x1,x2,x3] v0 v1 v2 v3) (fun _=>rfl) (st_end3 x0 x1 x2 x3 v0 v1 v2 v3 q hr) (fun i hi=>st_step3 x0 x1 x2 x3 v0 v1 v2 v3 q q' hr hr' hn hq hi) q.A.length 0 (by omega) (by omega)
 obtain⟨env3,hp3⟩:=s3
 simp only at h3 u3 f3 w3
 subst h3
 refine⟨⟨[[.p x0,.p x1,.p x2,.p x3],[.tsl 0 81 2 v0,.tsl 1 70 3 v1,.tsl 2 41 7 v2,.tsl 3 44 6 v3]],[v0.length,v1.length,v2.length,v3.length]⟩,rfl,call_body (fc:=fc28) rfl rfl rfl rfl ?_⟩
 simp only[stS,Int.natCast_zero,List.map_cons,List.map_nil] at e0 e1 e2 e3
 have lS:=hr.S.len
 have mS:(v0).length=q'.S.length:=by rw[hr'.S,List.length_map]
 rw[List.length_map] at lS
 have oS:(D.p x0).one=true:=hr.S.one
 have lF:=hr.F.len
 have mF:(v1).length=q'.F.length:=by rw[hr'.F,List.length_map]
 rw[List.length_map] at lF
 have oF:(D.p x1).one=true:=hr.F.one
 have lP:=hr.P.len
 have mP:(v2).length=q'.P.length:=by rw[hr'.P,List.length_map]
 rw[List.length_map] at lP
 have oP:(D.p x2).one=true:=hr.P.one
 have lA:=hr.A.len
 have mA:(v3).length=q'.A.length:=by rw[hr'.A,List.length_map]
 rw[List.length_map] at lA
 have oA:(D.p x3).one=true:=hr.A.one
 rw[hq.S] at mS
 rw[hq.F] at mF
 rw[←hq.pl] at mP
 rw[←hq.al] at mA
 simp only[mS,mF,mP,mA] at e0 e1 e2 e3
 simp[fc28,evKC,evK,evGuard,put,Env.keep,entry,Opd.ev,cutAt,binD,finish,evRes,evRes1,D.cells,ld_succ,ld_zero,lS,lF,lP,lA,mS,mF,mP,mA,oS,oF,oP,oA,lenD_tsl,e0,e1,e2,e3,u0,u1,u2,f0,f1,f2,w0,w1,w2,Env.get]
end
end Go.Proofs.YtalgjkpkkdljaaaGreatDoor
namespace Go.Proofs.YtalgjkpkkdljaaaGreatDoor
open Go.Vs
theorem callD_tokA{f:Nat}{x b y:PD}{v0 v1 v2 v3:List PD}{n0 n1 n2 n3:Nat}{bx:List (List D)}
    (h:∃Hl:Hp,Hl.tk=[n0,n1,n2,n3]∧call pg f [.p x,.agg [.tsl 0 81 2 v0,.tsl 1 70 3 v1,.tsl 2 41 7 v2,.tsl 3 44 6 v3],.p b] ⟨[],[n0,n1,n2,n3]⟩=some (.val (.p y),Hl)):
    callD (call pg) f [.p x,.agg [.tsl 0 81 2 v0,.tsl 1 70 3 v1,.tsl 2 41 7 v2,.tsl 3 44 6 v3],.p b] ⟨bx,[n0,n1,n2,n3]⟩=some (.val (.p y),⟨bx,[n0,n1,n2,n3]⟩):=by
 obtain⟨⟨bx',tk⟩,h1,h⟩:=h
 simp only at h1
 subst h1
 have hreach:∀n,reach ⟨bx,[n0,n1,n2,n3]⟩ n []=[]:=by
  intro n
  cases n<;>simp[reach,boxRefs]
 unfold callD
 simp[D.refsL,D.toksL,D.refs,D.toks,ins,hreach,boxToks,Vs.nodupB,mapO,D.renL,D.ren,idx,h,back,firstN,Res.ren,putAll]
structure IdxB (q:Sp):Prop where
 fn:∀x∈q.F,∀v∈x.2.1,v≤1000000
 pn:∀x∈q.P,∀v∈x.2.1,v.2≤1000000
theorem findS_lt(S:List (List UInt8×Bool))(t:List UInt8){i:Nat}:∀n,findS S t n=some i→i<n
 | 0,h=>by cases h
 |n+1,h=>by
  unfold findS at h
  split at h
  ·cases h;omega
  ·have:=findS_lt S t n h;omega
theorem sorts_bd{c:Rd}{S:List (List UInt8×Bool)}(hS:S.length≤1000000):∀(n:Nat) (l:List Nat) (a:Nat) (l':List Nat) (a':Nat),(∀v∈l,v≤1000000)→sortsP c S n l a= .ok l' a'→∀v∈l',v≤1000000
 | 0,l,a,l',a',hl,h=>by cases h;exact hl
 |n+1,l,a,l',a',hl,h=>by
  unfold sortsP at h
  split at h
  ·obtain⟨i,b,h1,h⟩:=bind_inv h
   have w:=findS_lt _ _ _ (sort_lt h1).2.2
   refine sorts_bd hS n _ _ _ _ (fun v hv=>?_) h
   rcases List.mem_append.1 hv with r |r
   ·exact hl v r
   ·rw[List.mem_singleton.1 r];omega
  ·cases h;exact hl
theorem params_bd{c:Rd}{S:List (List UInt8×Bool)}(hS:S.length≤1000000):∀(n:Nat) (l:List (List UInt8×Nat)) (a:Nat) (l':List (List UInt8×Nat)) (a':Nat),(∀v∈l,v.2≤1000000)→paramsP c S n l a= .ok l' a'→∀v∈l',v.2≤1000000
 | 0,l,a,l',a',hl,h=>by cases h;exact hl
 |n+1,l,a,l',a',hl,h=>by
  unfold paramsP at h
  split at h
  ·cases h;exact hl
  ·obtain⟨_,_,h1,h⟩:=bind_inv h
   obtain⟨_,_,h2,h⟩:=bind_inv h
   obtain⟨_,_,h3,h⟩:=bind_inv h
   obtain⟨i,_,h4,h⟩:=bind_inv h
   have w:=findS_lt _ _ _ (sort_lt h4).2.2
   refine params_bd hS n _ _ _ _ (fun v hv=>?_) h
   rcases List.mem_append.1 hv with r |r
   ·exact hl v r
   ·rw[List.mem_singleton.1 r];show i≤_;omega
theorem decl_ib{c:Rd}{q:Sp}(hS:q.S.length≤1000000)(hb:IdxB q){a:Nat}{q':Sp}{a':Nat}(hw:declP c q a= .ok q' a'):IdxB q':=by
 unfold declP at hw
 split at hw
 ·unfold sortDeclP at hw
  split at hw
  ·cases hw
  ·obtain⟨t,b,h1,hw⟩:=bind_inv hw
   obtain⟨u,b2,h2,hw⟩:=bind_inv hw
   cases hw
   exact⟨hb.fn,hb.pn⟩
 ·split at hw
  ·unfold fieldDeclP at hw
   split at hw
   ·cases hw
   ·obtain⟨u,b,h1,hw⟩:=bind_inv hw
    obtain⟨t,b2,h2,hw⟩:=bind_inv hw
    obtain⟨u3,b3,h3,hw⟩:=bind_inv hw
    obtain⟨i,b4,h4,hw⟩:=bind_inv hw
    obtain⟨l,b5,h5,hw⟩:=bind_inv hw
    obtain⟨u6,b6,h6,hw⟩:=bind_inv hw
    cases hw
    have w:=findS_lt _ _ _ (sort_lt h4).2.2
    have h7:=sorts_bd hS _ _ _ _ _ (fun v hv=>by rw[List.mem_singleton.1 hv];omega) h5
    refine⟨fun x hx=>?_,hb.pn⟩
    rcases List.mem_append.1 hx with r |r
    ·exact hb.fn x r
    ·rw[List.mem_singleton.1 r];exact h7
  ·split at hw
   ·unfold predDeclP at hw
    split at hw
    ·cases hw
    ·obtain⟨t,b,h1,hw⟩:=bind_inv hw
     obtain⟨u,b2,h2,hw⟩:=bind_inv hw
     obtain⟨l,b3,h3,hw⟩:=bind_inv hw
     obtain⟨n,b4,h4,hw⟩:=bind_inv hw
     cases hw
     have h7:=params_bd hS _ _ _ _ _ (fun v hv=>(List.not_mem_nil hv).elim) h3
     refine⟨hb.fn,fun x hx=>?_⟩
     rcases List.mem_append.1 hx with r |r
     ·exact hb.pn x r
     ·rw[List.mem_singleton.1 r];exact h7
   ·split at hw
    ·unfold factDeclP at hw
     split at hw
     ·cases hw
     ·obtain⟨t,b,h1,hw⟩:=bind_inv hw
      obtain⟨n,b2,h2,hw⟩:=bind_inv hw
      cases hw
      exact⟨hb.fn,hb.pn⟩
    ·exact absurd hw wrongP_bad
theorem run_ib{s:List UInt8}{q q2:Sp}{a a2:Nat}(h:Run s q a q2 a2):q2.S.length≤1000000→IdxB q→IdxB q2:=by
 induction h with
 |here=>exact fun _ h=>h
 | @step q q1 q2 a a1 a2 hl hd r ih=>
  intro hS hb
  have w:q1.S.length≤q2.S.length:=by
   clear ih hb hS hd hl
   induction r with
   |here=>exact Nat.le_refl _
   |step hl hd _ ih=>have:=(decl_grow hd).1;omega
  have:=(decl_grow hd).1
  exact ih hS (decl_ib (by omega) hb hd)
structure Lay2 (s t:List UInt8) (o n:List Nat):Prop where
 hs:s.length≤20000
 ht:t.length≤20000
 es:(Lx.lex s).2.1=0
 et:(Lx.lex t).2.1=0
 hk:∀i,ktAt (rdF s []) i=ktAt (rdF t []) i
 pos:∀j:Nat,∃k:Nat,o[k]? =some ((rdF s []).tok j).p∧n[k]? =some ((rdF t []).tok j).p
section
variable {s t : List UInt8} {o n : List Nat} (L : Lay2 s t o n)
include L
end
end Go.Proofs.YtalgjkpkkdljaaaGreatDoor
namespace Go.Proofs.YtalgjkpkkdljaaaGreatDoor
open Go.Vs
def wantQ(q r:Sp):Sp:=⟨[],q.S++r.S,q.F++r.F.map (shF q.S.length),q.P++r.P.map (shP q.S.length),q.A++r.A⟩
theorem EX.want{B q q':Sp}(h:EX B q q'):EQ q' (wantQ B q):=⟨h.S.symm,h.F.symm,h.P,h.A⟩
theorem want_t(q r:Sp):SpT (q.S.map sPD++r.S.map sPD) (q.F.map fPD++(r.F.map (shF q.S.length)).map fPD) (q.P.map pPD++(r.P.map (shP q.S.length)).map pPD) (q.A.map aPD++r.A.map aPD) (wantQ q r):=by
 refine⟨?_,?_,?_,?_⟩<;>simp[wantQ]
theorem parse_ib{s:List UInt8}(hs:s.length≤20000)(h:(parseS s).f=[]):IdxB (parseS s):=by
 have r:Run s q0 0 (parseS s) (Lx.lex s).1.length:=run_of hs _ 0 q0 (by omega) (Nat.zero_le _) rfl h
 obtain⟨w1,_,_⟩:=specL_ok (s:=s) hs ((Lx.lex s).1.length+1) 0 q0 wf_q0 (fun x hx=>(List.not_mem_nil hx).elim) (by decide) (Nat.zero_le _)
 rw[show specL s ((Lx.lex s).1.length+1) q0 0=parseS s from rfl] at w1
 exact run_ib r (by have:=w1.S;omega) ⟨fun x hx=>(List.not_mem_nil hx).elim,fun x hx=>(List.not_mem_nil hx).elim⟩
theorem law7_long(s t:List UInt8)(h:4000<s.length∨4000<t.length):∃H',call pg 7 [.p (.str s),.p (.str t)] ⟨[],[]⟩=some (.val (.p (.bool true)),H'):=by
 have hhead:=head13_call
 by_cases h1:(4000 :Int)<(s.length:Int)
 ·exact⟨⟨[],[]⟩,call_body (fc:=fc7) rfl rfl rfl rfl (by simp[fc7,evKC,evK,evGuard,put,Env.get,Env.keep,entry,Opd.ev,binD,finish,evRes,evRes1,lenD_str,hhead,h1])⟩
 ·have h2:(4000 :Int)<(t.length:Int):=by omega
  exact⟨⟨[],[]⟩,call_body (fc:=fc7) rfl rfl rfl rfl (by simp[fc7,evKC,evK,evGuard,put,Env.get,Env.keep,entry,Opd.ev,binD,finish,evRes,evRes1,lenD_str,hhead,h1,h2])⟩
theorem law7_faults(s t:List UInt8)(hs:s.length≤4000)(ht:t.length≤4000)(h:(paQ s).2≠[]∨(paQ t).2≠[]):∃H',call pg 7 [.p (.str s),.p (.str t)] ⟨[],[]⟩=some (.val (.p (.bool true)),H'):=by
 have hhead:=head13_call
 have h1:¬(4000 :Int)<(s.length:Int):=by omega
 have h2:¬(4000 :Int)<(t.length:Int):=by omega
 obtain⟨AD,x0,x1,x2,x3,d,X⟩:=pa_x s
 obtain⟨AE,y0,y1,y2,y3,d',Y⟩:=pa_x t
 have hpa:=fun H=>pa_eq s (by omega) H
 have hpb:=fun H=>pa_eq t (by omega) H
 rw[X.eq] at hpa
 rw[Y.eq] at hpb
 have hst0:=X.st []
 have hst1:=Y.st [[.p x0,.p x1,.p x2,.p x3]]
 simp only[List.nil_append,List.cons_append,List.length_nil,List.length_cons,Nat.zero_add] at hst0 hst1
 have hd:=X.rd.len
 have he:=Y.rd.len
 generalize hf:(paQ s).2=f at *
 generalize hg:(paQ t).2=g at *
 refine⟨⟨[[.p x0,.p x1,.p x2,.p x3],[.p y0,.p y1,.p y2,.p y3]],[]⟩,call_body (fc:=fc7) rfl rfl rfl rfl ?_⟩
 by_cases hl:0<f.length
 ·simp[fc7,evKC,evK,evGuard,put,Env.get,Env.keep,entry,Opd.ev,binD,finish,evRes,evRes1,PD.one,lenD_str,hhead,h1,h2,hpa,hpb,hst0,hst1,hd,hl]
 ·have hf0:f=[]:=List.eq_nil_of_length_eq_zero (by omega)
  have hg0:g≠[]:=h.resolve_left (fun q=>q hf0)
  have hl2:0<g.length:=List.length_pos_iff.2 hg0
  simp[fc7,evKC,evK,evGuard,put,Env.get,Env.keep,entry,Opd.ev,binD,finish,evRes,evRes1,PD.one,lenD_str,hhead,h1,h2,hpa,hpb,hst0,hst1,hd,he,hl,hl2]
theorem paQ_nil{s:List UInt8}(h:(paQ s).2=[]):(Lx.lex s).2.1=0∧(parseS s).f=[]∧paQ s=(parseS s,[]):=by
 unfold paQ at h⊢
 split at h
 ·cases h
 ·rename_i he
  split at h
  ·rename_i hf
   rw[if_neg he,if_pos hf]
   exact⟨Classical.not_not.1 he,hf,rfl⟩
  ·rename_i hf
   exact absurd h hf
theorem law7_over(s t:List UInt8)(hs:s.length≤4000)(ht:t.length≤4000)(h1:(paQ s).2=[])(h2:(paQ t).2=[])(hf:¬Fits (parseS s) (parseS t)):∃H',call pg 7 [.p (.str s),.p (.str t)] ⟨[],[]⟩=some (.val (.p (.bool true)),H'):=by
 have hhead:=head13_call
 obtain⟨es,fs,qs⟩:=paQ_nil h1
 obtain⟨et,ft,qt⟩:=paQ_nil h2
 have hl:(s++10::t).length≤20000:=by simp;omega
 obtain⟨ew,_,hov⟩:=cat_fits hl es et fs ft
 obtain⟨p,l,hov⟩:=hov hf
 have l1:¬(4000 :Int)<(s.length:Int):=by omega
 have l2:¬(4000 :Int)<(t.length:Int):=by omega
 obtain⟨AD,x0,x1,x2,x3,d,X⟩:=pa_x s
 obtain⟨AE,y0,y1,y2,y3,d',Y⟩:=pa_x t
 obtain⟨AF,z0,z1,z2,z3,d2,Z⟩:=pa_x (s++10::t)
 have hpa:=fun H=>pa_eq s (by omega) H
 have hpb:=fun H=>pa_eq t (by omega) H
 have hpc:=fun H=>pa_eq (s++10::t) (by omega) H
 rw[X.eq] at hpa
 rw[Y.eq] at hpb
 rw[Z.eq] at hpc
 have hst0:=X.st []
 have hst1:=Y.st [[.p x0,.p x1,.p x2,.p x3]]
 have hst2:=Z.st [[.p x0,.p x1,.p x2,.p x3],[.p y0,.p y1,.p y2,.p y3]]
 simp only[List.nil_append,List.cons_append,List.length_nil,List.length_cons,Nat.zero_add] at hst0 hst1 hst2
 have hd:=X.rd.len
 have he:=Y.rd.len
 have hr:=Z.rd
 have hqw:(paQ (s++10::t)).2=dg 2 p::l:=by
  unfold paQ
  rw[if_neg (c:=(Lx.lex (s++10::t)).2.1≠0) (fun q=>q ew),if_neg (fun q=>by rw[hov] at q;cases q),hov]
 rw[hqw] at hr
 have hdl:=hr.len
 have hda:=hr.at_ 0 _ rfl
 simp only[Int.natCast_zero] at hda
 have hcc:(dg 2 p).cells=[.int .i64 2,.int .i64 p]:=by simp[dg,PD.cells]
 rw[hcc] at hda
 have ld0:∀G H,loadD G H none (.ro [.int .i64 2,.int .i64 p] 0)=some (.p (.int .i64 2)):=fun _ _=>rfl
 rw[h1] at hd
 rw[h2] at he
 have sp:=X.sp
 have tp:=Y.sp
 rw[qs] at sp
 rw[qt] at tp
 have a0:=sp.S.len;have a1:=sp.F.len;have a2:=sp.P.len;have a3:=sp.A.len
 have b0:=tp.S.len;have b1:=tp.F.len;have b2:=tp.P.len;have b3:=tp.A.len
 simp only[List.length_map] at a0 a1 a2 a3 b0 b1 b2 b3
 have ws:=X.w
 have wt:=Y.w
 rw[qs] at ws
 rw[qt] at wt
 have u0:=ws.S;have u1:=ws.F;have u2:=ws.P;have u3:=ws.A
 have v0:=wt.S;have v1:=wt.F;have v2:=wt.P;have v3:=wt.A
 simp only at u0 u1 u2 u3 v0 v1 v2 v3
 have k0:IntKind.i64.wrap (((parseS s).S.length:Int)+((parseS t).S.length:Int))=(((parseS s).S.length+(parseS t).S.length:Nat):Int):=wrap64 (by omega) (by omega)
 have k1:IntKind.i64.wrap (((parseS s).F.length:Int)+((parseS t).F.length:Int))=(((parseS s).F.length+(parseS t).F.length:Nat):Int):=wrap64 (by omega) (by omega)
 have k2:IntKind.i64.wrap (((parseS s).P.length:Int)+((parseS t).P.length:Int))=(((parseS s).P.length+(parseS t).P.length:Nat):Int):=wrap64 (by omega) (by omega)
 have k3:IntKind.i64.wrap (((parseS s).A.length:Int)+((parseS t).A.length:Int))=(((parseS s).A.length+(parseS t).A.length:Nat):Int):=wrap64 (by omega) (by omega)
 have hor:4<(parseS s).S.length+(parseS t).S.length∨6<(parseS s).F.length+(parseS t).F.length∨8<(parseS s).P.length+(parseS t).P.length∨16<(parseS s).A.length+(parseS t).A.length:=by
  apply Classical.byContradiction
  intro hc
  exact hf ⟨by omega,by omega,by omega,by omega⟩
 have hln1:s.length+1≤140737488355328:=by omega
 have hln2:s.length+1+t.length≤140737488355328:=by omega
 have o0:(D.p x0).one=true:=sp.S.one
 have o1:(D.p x1).one=true:=sp.F.one
 have o2:(D.p x2).one=true:=sp.P.one
 have o3:(D.p x3).one=true:=sp.A.one
 have p0:(D.p y0).one=true:=tp.S.one
 have p1:(D.p y1).one=true:=tp.F.one
 have p2:(D.p y2).one=true:=tp.P.one
 have p3:(D.p y3).one=true:=tp.A.one
 clear hf hov X Y Z sp tp qs qt hqw ws wt u0 u1 u2 u3 v0 v1 v2 v3 fs ft
 generalize (parseS s).S.length=m0 at *
 generalize (parseS s).F.length=m1 at *
 generalize (parseS s).P.length=m2 at *
 generalize (parseS s).A.length=m3 at *
 generalize (parseS t).S.length=n0 at *
 generalize (parseS t).F.length=n1 at *
 generalize (parseS t).P.length=n2 at *
 generalize (parseS t).A.length=n3 at *
 refine⟨⟨[[.p x0,.p x1,.p x2,.p x3],[.p y0,.p y1,.p y2,.p y3],[.p z0,.p z1,.p z2,.p z3]],[]⟩,call_body (fc:=fc7) rfl rfl rfl rfl ?_⟩
 have i0:((m0:Int)+(n0:Int)>4)↔4<m0+n0:=by omega
 have i1:((m1:Int)+(n1:Int)>6)↔6<m1+n1:=by omega
 have i2:((m2:Int)+(n2:Int)>8)↔8<m2+n2:=by omega
 have i3:((m3:Int)+(n3:Int)>16)↔16<m3+n3:=by omega
 by_cases g0:(4 :Int)<(m0:Int)+(n0:Int)
 ·simp[fc7,evKC,evK,evGuard,put,Env.get,Env.keep,entry,Opd.ev,cutAt,D.asInt?,binD,strBin,finish,evRes,evRes1,PD.one,List.map,ld_succ,ld_zero,lenD_str,hhead,l1,l2,hpa,hpb,hpc,hst0,hst1,hst2,hd,he,hdl,hda,ld0,a0,b0,k0,hln1,hln2,g0]
 by_cases g1:(6 :Int)<(m1:Int)+(n1:Int)
 ·simp[fc7,evKC,evK,evGuard,put,Env.get,Env.keep,entry,Opd.ev,cutAt,D.asInt?,binD,strBin,finish,evRes,evRes1,PD.one,List.map,ld_succ,ld_zero,lenD_str,hhead,l1,l2,hpa,hpb,hpc,hst0,hst1,hst2,hd,he,hdl,hda,ld0,a0,a1,b0,b1,k0,k1,hln1,hln2,g0,g1]
 by_cases g2:(8 :Int)<(m2:Int)+(n2:Int)
 ·simp[fc7,evKC,evK,evGuard,put,Env.get,Env.keep,entry,Opd.ev,cutAt,D.asInt?,binD,strBin,finish,evRes,evRes1,PD.one,List.map,ld_succ,ld_zero,lenD_str,hhead,l1,l2,hpa,hpb,hpc,hst0,hst1,hst2,hd,he,hdl,hda,ld0,a0,a1,a2,b0,b1,b2,k0,k1,k2,hln1,hln2,g0,g1,g2]
 have g3:(16 :Int)<(m3:Int)+(n3:Int):=by omega
 simp[fc7,evKC,evK,evGuard,put,Env.get,Env.keep,entry,Opd.ev,cutAt,D.asInt?,binD,strBin,finish,evRes,evRes1,PD.one,List.map,ld_succ,ld_zero,lenD_str,hhead,l1,l2,hpa,hpb,hpc,hst0,hst1,hst2,hd,he,hdl,hda,ld0,a0,a1,a2,a3,b0,b1,b2,b3,k0,k1,k2,k3,hln1,hln2,g0,g1,g2,g3]
theorem parseD_nil{s:List UInt8}(h:(paQ s).2=[]):parseD s= .tup [(parseS s).d,.p .nils]:=by
 obtain⟨he,hf,_⟩:=paQ_nil h
 unfold parseD
 rw[if_neg (fun q=>q he),if_pos hf]
theorem law7_fits(s t:List UInt8)(hs:s.length≤4000)(ht:t.length≤4000)(h1:(paQ s).2=[])(h2:(paQ t).2=[])(hf:Fits (parseS s) (parseS t)):∃H',call pg 7 [.p (.str s),.p (.str t)] ⟨[],[]⟩=some (.val (.p (.bool true)),H'):=by
 have hhead:=head13_call
 obtain⟨es,fs,qs⟩:=paQ_nil h1
 obtain⟨et,ft,qt⟩:=paQ_nil h2
 have hl:(s++10::t).length≤20000:=by simp;omega
 obtain⟨ew,hok,_⟩:=cat_fits hl es et fs ft
 obtain⟨fw,hex⟩:=hok hf
 have l1:¬(4000 :Int)<(s.length:Int):=by omega
 have l2:¬(4000 :Int)<(t.length:Int):=by omega
 obtain⟨AF,z0,z1,z2,z3,d2,Z⟩:=pa_x (s++10::t)
 have hpa:=fun H=>pa_eq s (by omega) H
 have hpb:=fun H=>pa_eq t (by omega) H
 have hpc:=fun H=>pa_eq (s++10::t) (by omega) H
 rw[parseD_nil h1] at hpa
 rw[parseD_nil h2] at hpb
 rw[Z.eq] at hpc
 have hqw:paQ (s++10::t)=(parseS (s++10::t),[]):=by
  unfold paQ
  rw[if_neg (c:=(Lx.lex (s++10::t)).2.1≠0) (fun q=>q ew),if_pos fw]
 have hzs:=Z.sp
 have hzn:=Z.n
 have hzd:=Z.rd.len
 rw[hqw] at hzs hzn hzd
 have hib:=parse_ib (s:=t) (by omega) ft
 have hse:=fun bx=>callD_tokA (b:=.bool false) (bx:=bx) (st_eq z0 z1 z2 z3 _ _ _ _ _ _ hzs (want_t (parseS s) (parseS t)) hzn hex.want)
 obtain⟨ws,_,_⟩:=specL_ok (s:=s) (by omega) ((Lx.lex s).1.length+1) 0 q0 wf_q0 (fun x hx=>(List.not_mem_nil hx).elim) (by decide) (Nat.zero_le _)
 rw[show specL s ((Lx.lex s).1.length+1) q0 0=parseS s from rfl] at ws
 obtain⟨wt,_,_⟩:=specL_ok (s:=t) (by omega) ((Lx.lex t).1.length+1) 0 q0 wf_q0 (fun x hx=>(List.not_mem_nil hx).elim) (by decide) (Nat.zero_le _)
 rw[show specL t ((Lx.lex t).1.length+1) q0 0=parseS t from rfl] at wt
 have hbd:PartsB (parseS t):=specL_bd (by omega) _ _ _ ⟨fun x hx=>(List.not_mem_nil hx).elim,fun x hx=>(List.not_mem_nil hx).elim⟩
 have hsl:=ws.S
 have hfl:=ws.F
 have hpl:=ws.P
 have hal:=ws.A
 have htl:=wt.S
 obtain⟨⟨env1,hp1⟩,e1,q0',q5,q6,q8,q10,q11,q12,q13⟩:=fo_loop (.slice 2 ((parseS s).S.map sPD)) (.slice 3 ((parseS s).F.map fPD)) (.slice 7 ((parseS s).P.map pPD)) (.slice 6 ((parseS s).A.map aPD)) (.slice 2 ((parseS t).S.map sPD)) (.slice 3 ((parseS t).F.map fPD)) (.slice 7 ((parseS t).P.map pPD)) (.slice 6 ((parseS t).A.map aPD)) z0 z1 z2 z3 d2 (parseS s).S.length ((parseS s).S.map sPD++(parseS t).S.map sPD) [] [] (row_slice 3 _) (by have:=wt.F;omega) hbd.fn hib.fn (by omega) ((parseS s).F.map fPD) (by simp;omega)
 obtain⟨⟨env2,hp2⟩,e2,r0',r5,r6,r8,r10,r11,r12,r13⟩:=po_loop (.slice 2 ((parseS s).S.map sPD)) (.slice 3 ((parseS s).F.map fPD)) (.slice 7 ((parseS s).P.map pPD)) (.slice 6 ((parseS s).A.map aPD)) (.slice 2 ((parseS t).S.map sPD)) (.slice 3 ((parseS t).F.map fPD)) (.slice 7 ((parseS t).P.map pPD)) (.slice 6 ((parseS t).A.map aPD)) z0 z1 z2 z3 d2 (parseS s).S.length ((parseS s).S.map sPD++(parseS t).S.map sPD) ((parseS s).F.map fPD++((parseS t).F.map (shF (parseS s).S.length)).map fPD) [] (row_slice 7 _) (by have:=wt.P;omega) hbd.pn hib.pn (by omega) ((parseS s).P.map pPD) (by simp;omega)
 simp only at q0' q5 q6 q8 q10 q11 q12 q13 r0' r5 r6 r8 r10 r11 r12 r13
 subst q0' r0'
 simp only[Sp.d] at hpa hpb
 have n0:((parseS s).S.map sPD).length=(parseS s).S.length:=List.length_map ..
 have n1:((parseS s).F.map fPD).length=(parseS s).F.length:=List.length_map ..
 have n2:((parseS s).P.map pPD).length=(parseS s).P.length:=List.length_map ..
 have n3:((parseS s).A.map aPD).length=(parseS s).A.length:=List.length_map ..
 have m0:((parseS t).S.map sPD).length=(parseS t).S.length:=List.length_map ..
 have m1:((parseS t).F.map fPD).length=(parseS t).F.length:=List.length_map ..
 have m2:((parseS t).P.map pPD).length=(parseS t).P.length:=List.length_map ..
 have m3:((parseS t).A.map aPD).length=(parseS t).A.length:=List.length_map ..
 have o1:(((parseS t).F.map (shF (parseS s).S.length)).map fPD).length=(parseS t).F.length:=by rw[List.length_map,List.length_map]
 have o2:(((parseS t).P.map (shP (parseS s).S.length)).map pPD).length=(parseS t).P.length:=by rw[List.length_map,List.length_map]
 have f0:=hf.S
 have f1:=hf.F
 have f2:=hf.P
 have f3:=hf.A
 generalize (parseS s).S.map sPD=S1 at *
 generalize (parseS s).F.map fPD=F1 at *
 generalize (parseS s).P.map pPD=P1 at *
 generalize (parseS s).A.map aPD=A1 at *
 generalize ((parseS t).F.map (shF (parseS s).S.length)).map fPD=F3 at *
 generalize ((parseS t).P.map (shP (parseS s).S.length)).map pPD=P3 at *
 generalize (parseS t).S.map sPD=S2 at *
 generalize (parseS t).F.map fPD=F2 at *
 generalize (parseS t).P.map pPD=P2 at *
 generalize (parseS t).A.map aPD=A2 at *
 have hst0:=fun bx=>st_dd [] bx (.slice 2 S1) (.slice 3 F1) (.slice 7 P1) (.slice 6 A1) rfl rfl rfl rfl
 have hst1:=fun bx=>st_dd [[.p (.slice 2 S1),.p (.slice 3 F1),.p (.slice 7 P1),.p (.slice 6 A1)]] bx (.slice 2 S2) (.slice 3 F2) (.slice 7 P2) (.slice 6 A2) rfl rfl rfl rfl
 have hst2:=Z.st [[.p (.slice 2 S1),.p (.slice 3 F1),.p (.slice 7 P1),.p (.slice 6 A1)],[.p (.slice 2 S2),.p (.slice 3 F2),.p (.slice 7 P2),.p (.slice 6 A2)]]
 simp only[List.nil_append,List.cons_append,List.length_nil,List.length_cons,Nat.zero_add] at hst0 hst1 hst2
 have k0:IntKind.i64.wrap (((parseS s).S.length:Int)+((parseS t).S.length:Int))=((parseS s).S.length:Int)+((parseS t).S.length:Int):=wrap64 (by omega) (by omega)
 have g0:¬(4 :Int)<((parseS s).S.length:Int)+((parseS t).S.length:Int):=by omega
 simp only[foS,poS,ctE,ctH,List.map_cons,List.map_nil,List.length_nil,Int.natCast_zero,List.length_append,n0,n1,n2,m0,o1,o2] at e1 e2
 simp only[List.length_append,n0,n1,n2,n3,m0,m3,o1,o2] at hse
 have k1:IntKind.i64.wrap (((parseS s).F.length:Int)+((parseS t).F.length:Int))=((parseS s).F.length:Int)+((parseS t).F.length:Int):=wrap64 (by omega) (by omega)
 have g1:¬(6 :Int)<((parseS s).F.length:Int)+((parseS t).F.length:Int):=by omega
 have k2:IntKind.i64.wrap (((parseS s).P.length:Int)+((parseS t).P.length:Int))=((parseS s).P.length:Int)+((parseS t).P.length:Int):=wrap64 (by omega) (by omega)
 have g2:¬(8 :Int)<((parseS s).P.length:Int)+((parseS t).P.length:Int):=by omega
 have k3:IntKind.i64.wrap (((parseS s).A.length:Int)+((parseS t).A.length:Int))=((parseS s).A.length:Int)+((parseS t).A.length:Int):=wrap64 (by omega) (by omega)
 have g3:¬(16 :Int)<((parseS s).A.length:Int)+((parseS t).A.length:Int):=by omega
 have lsl:∀n l,lenD 1 (.p (.slice n l))=some l.length:=fun _ _=>rfl
 have hln1:s.length+1≤140737488355328:=by omega
 have hln2:s.length+1+t.length≤140737488355328:=by omega
 have ro:∀k b:Nat,k≤1000→b≤200→roomy k b=true:=fun k b h1 h2=>by
  simp only[roomy,Bool.and_eq_true,decide_eq_true_eq]
  have :k*b≤1000*200:=Nat.mul_le_mul h1 h2
  omega
 have y0:=ro (parseS s).S.length 24 (by omega) (by omega)
 have y1:=ro ((parseS s).S.length+(parseS t).S.length) 24 (by omega) (by omega)
 have y2:=ro (parseS s).F.length 48 (by omega) (by omega)
 have y3:=ro (parseS s).P.length 104 (by omega) (by omega)
 have y4:=ro (parseS s).A.length 80 (by omega) (by omega)
 have y5:=ro ((parseS s).A.length+(parseS t).A.length) 80 (by omega) (by omega)
 apply Exists.intro
 refine call_body (fc:=fc7) rfl rfl rfl rfl ?_
 simp[fc7,evKC,evK,evGuard,put,Env.keep,entry,Opd.ev,splice,cutAt,binD,strBin,sub,clsP,cls,clsR,isCl,isW,apartRW,offB,apartWW,clash,insOk,finish,evRes,evRes1,D.cells,D.one,PD.one,mkAgg,pures,fillD,appendD,srcD,D.elems?,srcH,isMapC,List.map,ld_succ,ld_zero,st_succ,st_zero,lenD_str,lenD_nils,lsl,tokbD,tokD,hhead,l1,l2,hpa,hpb,hpc,hst0,hst1,hst2,hzd,n0,n1,n2,n3,m0,m1,m2,m3,k0,k1,k2,k3,g0,g1,g2,g3,hln1,hln2,hse,y0,y1,y2,y3,y4,y5,e1,q5,q6,q8,q10,q11,q12,q13,e2,r5,r6,r8,r10,r11,r13,Env.get]
 rfl
theorem law7(s t:List UInt8):∃H',call pg 7 [.p (.str s),.p (.str t)] ⟨[],[]⟩=some (.val (.p (.bool true)),H'):=by
 by_cases h:4000<s.length∨4000<t.length
 ·exact law7_long s t h
 have hs:s.length≤4000:=by omega
 have ht:t.length≤4000:=by omega
 by_cases h1:(paQ s).2=[]
 ·by_cases h2:(paQ t).2=[]
  ·by_cases hf:Fits (parseS s) (parseS t)
   ·exact law7_fits s t hs ht h1 h2 hf
   ·exact law7_over s t hs ht h1 h2 hf
  ·exact law7_faults s t hs ht (.inr h2)
 ·exact law7_faults s t hs ht (.inl h1)
end Go.Proofs.YtalgjkpkkdljaaaGreatDoor
namespace Go.Proofs.YtalgjkpkkdljaaaGreatDoor
open Go.Vs Go.ChangeShapes Go.WideShapes Go.RowKit
end Go.Proofs.YtalgjkpkkdljaaaGreatDoor
