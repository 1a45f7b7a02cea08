/-
  A value-level evaluator for Go functions; the functions of this cut by it; plain laws. Part 6 of 7.
-/
import Derived.Test.YtalgjkpkkdljaaaGreatDoorG5
import Derived.Test.YtalgjkpkkdljaaaGreatDoorG4
import Derived.KernelRfl
namespace Go.Proofs.YtalgjkpkkdljaaaGreatDoor
open Go.Vs
theorem cls_rd1{c:Rd}(h:c.Ok)(a o a' o':Nat)(bx:List (List D))(t:List Nat)(g i:Nat):∃k:Nat×Nat,(k=(1,0)∨k=(4000000012,0))∧∀env:Env,env.get i= .box 0 0→
    clsP env ⟨rC c a o::tabB::tabU::tabS::bx,c.tk++t⟩ ⟨rC c a' o'::tabB::tabU::tabS::bx,c.tk++t⟩ (.call (.c (.fn g [] [])) [.t i])=k:=by
 have hr:=reach_rH h a o bx t
 simp only[rH] at hr
 refine⟨if hpEq ⟨rC c a o::tabB::tabU::tabS::bx,c.tk++t⟩ ⟨rC c a' o'::tabB::tabU::tabS::bx,c.tk++t⟩ then(1,0) else(4000000012,0),?_,fun env he=>?_⟩
 ·cases hpEq ⟨rC c a o::tabB::tabU::tabS::bx,c.tk++t⟩ ⟨rC c a' o'::tabB::tabU::tabS::bx,c.tk++t⟩<;>simp
 ·have e1:cls env (.call (.c (.fn g [] [])) [.t i])=2:=by simp[cls,Opd.ev,he,D.refsL,D.refs]
  have e2:callIds env ⟨rC c a o::tabB::tabU::tabS::bx,c.tk++t⟩ (.call (.c (.fn g [] [])) [.t i])=[0,1,2,3]:=by
   simp only[callIds,Opd.ev,List.nil_append,List.append_nil,List.map_cons,List.map_nil,he]
   exact hr
  unfold clsP
  rw[e1,e2]
  simp[isCl,bnd]
def fdB(nm:List UInt8)(l:List PD)(v:Bool):List (List D):=[[.p (.str nm),.tsl 5 3 1 l,.p (.bool v)]]
def fdS(s:List UInt8)(q:Sp)(a o:Nat)(nm:List UInt8)(l:List Nat)(v:Bool):St:=⟨[(0,.box 0 0),(4,.box 4 0)],⟨rC (rdS s q) a o::tabB::tabU::tabS::fdB nm (l.map iPD) v,(rdS s q).tk++[l.length]⟩⟩
theorem fd_loc(s:List UInt8)(q:Sp)(a o:Nat)(nm:List UInt8)(l:List PD)(v:Bool)(ex:List (List D))(m:Nat)(out:Out)(env:Env)(ho:out.ren (below 5) (below 6)=some out):
    locD 5 6 (out,⟨env,⟨rC (rdS s q) a o::tabB::tabU::tabS::(fdB nm l v++ex),(rdS s q).tk++[m]⟩⟩)=
     (out,⟨env.map fun y=>(y.1,(y.2.ren (below 5) (below 6)).getD .dead),⟨rC (rdS s q) a o::tabB::tabU::tabS::fdB nm l v,(rdS s q).tk++[m]⟩⟩):=
 loc_rdT (rdX_ok ..) a o (fdB nm l v) _ ex [m] [] out env 5 6 rfl rfl rfl ho
theorem ap_i{s:List UInt8}{q:Sp}{l:List Nat}{i:Nat}{bx:List (List D)}(h:l.length≤1000):appendD 3 1 8 (.tsl 5 3 1 (l.map iPD)) [.int .i64 i] ⟨bx,(rdS s q).tk++[l.length]⟩=some (.tsl 5 3 1 ((l++[i]).map iPD),⟨bx,(rdS s q).tk++[(l++[i]).length]⟩):=by
 have hr:roomy (l.length+1) 8=true:=by simp only[roomy,Bool.and_eq_true,decide_eq_true_eq];omega
 simp[appendD,hr,rdS,rdX,iPD]
theorem ap_i0{s:List UInt8}{q:Sp}{i:Nat}{bx:List (List D)}:appendD 3 1 8 (.p .nils) [.int .i64 i] ⟨bx,(rdS s q).tk⟩=some (.tsl 5 3 1 ([i].map iPD),⟨bx,(rdS s q).tk++[1]⟩):=by
 have hr:roomy 1 8=true:=by decide
 simp[appendD,hr,rdS,rdX,iPD]
section
variable {s : List UInt8} (hs : s.length ≤ 20000) (q : Sp) (hS : q.S.length ≤ 1000) (nm : List UInt8) (v : Bool)
include hs hS
omit hs hS in
theorem fd_end3(a o:Nat)(l:List Nat)(hl:3≤l.length):∃env,evS (call pg) pg.G iterX fc74_b0 (fdS s q a o nm l v)=some (.exit 0,⟨env,(fdS s q a o nm l v).hp⟩)∧env.get 0= .box 0 0∧env.get 4= .box 4 0:=by
 have hlen:lenD 1 (.tsl 5 3 1 (l.map iPD))=some l.length:=by rw[lenD_tsl,List.length_map]
 have hlt:¬(l.length:Int)<3:=by omega
 have hloc:=fun env=>fd_loc s q a o nm (l.map iPD) v [] l.length (.exit 0) env rfl
 have htk:∀n:Nat,((rdS s q).tk++[n]).length=6:=fun _=>rfl
 simp only[fdS,fdB,List.append_nil] at hloc⊢
 apply Exists.intro
 refine⟨?_,?_,?_⟩
 ·conv=>lhs;simp[fc74_b0,evKC,evK,evGuard,put,Env.get,Env.keep,entry,Opd.ev,splice,cutAt,indexD,D.asInt?,D.asNat?,u8,binD,strBin,unD,boundsD,sliceD,iaddrD,sub,minmaxD,eqvL,PD.eqv,clsP,cls,clsR,isCl,isW,apartRW,offB,apartWW,clash,insOk,finish,evRes,evRes1,mapO,D.cells,PD.cells,D.refsL,D.refs,D.toksL,D.toks,mkAgg,pures,fillD,fillE,appendD,srcD,D.elems?,D.asPD,Int.toNat_natCast,srcH,srcBH,eqD,D.asPDL,isMapC,ld_succ,ld_zero,st_succ,st_zero,oI,oS,oN,oP,oB,oL,oT,oF,oE,ldr0,ldr1,ldr2,ldr3,ldr4,ldr5,ldr6,str1',str3',hlen,hlt,htk,hloc,D.ren,below,-List.length_append]
 all_goals rfl
omit hS in
theorem fd_end(a o:Nat)(ha:a≤400000)(l:List Nat)(hl:l.length<3)(hq:acceptB (rdS s q) a [45,62]=false):∃env,evS (call pg) pg.G iterX fc74_b0 (fdS s q a o nm l v)=some (.exit 0,⟨env,(fdS s q a o nm l v).hp⟩)∧env.get 0= .box 0 0∧env.get 4= .box 4 0:=by
 have h:(rdS s q).Sz:=rdX_sz s _ _ _ _ _ hs
 have ac:=fun bx t=>accept_eq h.toOk a o [45,62] (by omega) bx t
 simp only[rH,acceptN,hq,cond_false] at ac
 have hlen:lenD 1 (.tsl 5 3 1 (l.map iPD))=some l.length:=by rw[lenD_tsl,List.length_map]
 have hlt:(l.length:Int)<3:=by omega
 have hloc:=fun env=>fd_loc s q a o nm (l.map iPD) v [] l.length (.exit 0) env rfl
 have htk:∀n:Nat,((rdS s q).tk++[n]).length=6:=fun _=>rfl
 simp only[fdS,fdB,List.append_nil] at hloc⊢
 apply Exists.intro
 refine⟨?_,?_,?_⟩
 ·conv=>lhs;simp[fc74_b0,evKC,evK,evGuard,put,Env.get,Env.keep,entry,Opd.ev,splice,cutAt,indexD,D.asInt?,D.asNat?,u8,binD,strBin,unD,boundsD,sliceD,iaddrD,sub,minmaxD,eqvL,PD.eqv,clsP,cls,clsR,isCl,isW,apartRW,offB,apartWW,clash,insOk,finish,evRes,evRes1,mapO,D.cells,PD.cells,D.refsL,D.refs,D.toksL,D.toks,mkAgg,pures,fillD,fillE,appendD,srcD,D.elems?,D.asPD,Int.toNat_natCast,srcH,srcBH,eqD,D.asPDL,isMapC,ld_succ,ld_zero,st_succ,st_zero,oI,oS,oN,oP,oB,oL,oT,oF,oE,ldr0,ldr1,ldr2,ldr3,ldr4,ldr5,ldr6,str1',str3',hlen,hlt,htk,ac,hloc,D.ren,below,-List.length_append]
 all_goals rfl
theorem fd_bad(a o:Nat)(ha:a≤400000)(l:List Nat)(hl:l.length<3)(hq:acceptB (rdS s q) a [45,62]=true){e:Int}{p a':Nat}(hx:sortP (rdS s q) q.S (a+1)= .bad e p a'):
    ∃env o',evS (call pg) pg.G iterX fc74_b0 (fdS s q a o nm l v)=some (.pan (faultD e p),⟨env,(fdS s q a' o' nm l v).hp⟩):=by
 have h:(rdS s q).Sz:=rdX_sz s _ _ _ _ _ hs
 have ac:=fun bx t=>accept_eq h.toOk a o [45,62] (by omega) bx t
 simp only[rH,acceptN,hq,cond_true] at ac
 obtain⟨o',s1⟩:=(sort_eq hs q (by omega) (a+1) o (by omega)).badT hx
 have hlen:lenD 1 (.tsl 5 3 1 (l.map iPD))=some l.length:=by rw[lenD_tsl,List.length_map]
 have hlt:(l.length:Int)<3:=by omega
 have hloc:=fun env=>fd_loc s q a' o' nm (l.map iPD) v [] l.length (.pan (faultD e p)) env rfl
 have htk:∀n:Nat,((rdS s q).tk++[n]).length=6:=fun _=>rfl
 simp only[List.map_nil] at s1
 simp only[fdS,fdB,List.append_nil] at hloc⊢
 apply Exists.intro
 refine⟨o',?_⟩
 conv=>lhs;simp[fc74_b0,evKC,evK,evGuard,put,Env.get,Env.keep,entry,Opd.ev,splice,cutAt,indexD,D.asInt?,D.asNat?,u8,binD,strBin,unD,boundsD,sliceD,iaddrD,sub,minmaxD,eqvL,PD.eqv,clsP,cls,clsR,isCl,isW,apartRW,offB,apartWW,clash,insOk,finish,evRes,evRes1,mapO,D.cells,PD.cells,D.refsL,D.refs,D.toksL,D.toks,mkAgg,pures,fillD,fillE,appendD,srcD,D.elems?,D.asPD,Int.toNat_natCast,srcH,srcBH,eqD,D.asPDL,isMapC,ld_succ,ld_zero,st_succ,st_zero,oI,oS,oN,oP,oB,oL,oT,oF,oE,ldr0,ldr1,ldr2,ldr3,ldr4,ldr5,ldr6,str1',str3',hlen,hlt,htk,ac,s1,hloc,D.ren,below,-List.length_append,drP,evRest,behind,pairsOk,panOk,SO.uses,SK.slots,Opd.slots,SK.heapless]
theorem fd_step(a o:Nat)(ha:a≤400000)(l:List Nat)(hl:l.length<3)(hq:acceptB (rdS s q) a [45,62]=true){i a':Nat}(hx:sortP (rdS s q) q.S (a+1)= .ok i a'):
    evS (call pg) pg.G iterX fc74_b0 (fdS s q a o nm l v)=some (.norm,fdS s q a' o nm (l++[i]) v):=by
 have h:(rdS s q).Sz:=rdX_sz s _ _ _ _ _ hs
 have ac:=fun bx t=>accept_eq h.toOk a o [45,62] (by omega) bx t
 simp only[rH,acceptN,hq,cond_true] at ac
 have s1:=(sort_eq hs q (by omega) (a+1) o (by omega)).okT hx
 have hlen:lenD 1 (.tsl 5 3 1 (l.map iPD))=some l.length:=by rw[lenD_tsl,List.length_map]
 have hlt:(l.length:Int)<3:=by omega
 have hloc:=fun env=>fd_loc s q a' o nm ((l++[i]).map iPD) v [] (l++[i]).length .norm env rfl
 have htk:∀n:Nat,((rdS s q).tk++[n]).length=6:=fun _=>rfl
 have hap:=fun bx=>ap_i (s:=s) (q:=q) (l:=l) (i:=i) (bx:=bx) (by omega)
 obtain⟨kc,hkc,hcl⟩:=cls_rd1 h.toOk (a+1) o a' o (fdB nm (l.map iPD) v) [l.length] 123 41
 simp only[List.map_nil] at s1
 simp only[fdB] at hcl
 simp only[fdS,fdB,List.append_nil] at hloc⊢
 rcases hkc with rfl |rfl<;>simp[fc74_b0,↓hcl,evKC,evK,evGuard,put,Env.get,Env.keep,Opd.ev,splice,cutAt,binD,clsP,cls,clsR,isCl,isW,apartRW,offB,apartWW,clash,insOk,D.cells,PD.cells,fillE,srcD,D.elems?,D.asPD,srcH,ld_succ,ld_zero,st_succ,st_zero,hlen,hlt,htk,ac,s1,hap,hloc,D.ren,below,-List.length_append,-List.map_append]
end
end Go.Proofs.YtalgjkpkkdljaaaGreatDoor
namespace Go.Proofs.YtalgjkpkkdljaaaGreatDoor
open Go.Vs
def sortsP(c:Rd)(S:List (List UInt8×Bool)):Nat→List Nat→Nat→PR (List Nat)
 | 0,l,a=>.ok l a
 |n+1,l,a=>if acceptB c a [45,62] then(sortP c S (a+1)).bind fun i a=>sortsP c S n (l++[i]) a else .ok l a
theorem accept_lt'{c:Rd}{a:Nat}{s:List UInt8}(h:acceptB c a s=true):a<c.ts.length:=by
 rcases Nat.lt_or_ge a c.ts.length with q |q
 ·exact q
 ·unfold acceptB at h
  rw[tok_out q] at h
  simp at h
theorem sort_lt{c:Rd}{S:List (List UInt8×Bool)}{a i a':Nat}(h:sortP c S a= .ok i a'):a'=a+1∧a<c.ts.length∧findS S (c.tok a).t S.length=some i:=by
 unfold sortP at h
 split at h
 ·rename_i hn
  split at h
  ·rename_i hf
   cases h
   refine⟨rfl,?_,hf⟩
   rcases Nat.lt_or_ge a c.ts.length with q |q
   ·exact q
   ·unfold namedB at hn
    rw[tok_out q] at hn
    simp at hn
  ·cases h
 ·exact absurd h wrongP_bad
section
variable {s : List UInt8} (hs : s.length ≤ 20000) (q : Sp) (hS : q.S.length ≤ 1000) (nm : List UInt8) (v : Bool)
include hs hS
theorem fd_loop:∀(n:Nat) (l:List Nat) (a:Nat),n+l.length=3→a≤(rdS s q).ts.length→match sortsP (rdS s q) q.S n l a with
    | .ok l' a'=>a'≤(rdS s q).ts.length∧∃env,loopK (call pg) pg.G [0,4] fc74_b0 (fdS s q a 0 nm l v)=some (.exit 0,⟨env,(fdS s q a' 0 nm l' v).hp⟩)∧env.get 0= .box 0 0∧env.get 4= .box 4 0
    | .bad e p a'=>∃env o' l',loopK (call pg) pg.G [0,4] fc74_b0 (fdS s q a 0 nm l v)=some (.pan (faultD e p),⟨env,(fdS s q a' o' nm l' v).hp⟩):=by
 have h:(rdS s q).Sz:=rdX_sz s _ _ _ _ _ hs
 have hn:=h.n
 intro n
 induction n with
 |zero=>
  intro l a hl ha
  obtain⟨env,e,g0,g4⟩:=fd_end3 (s:=s) q nm v a 0 l (by omega)
  exact⟨ha,env,loopK_out e (by simp),g0,g4⟩
 |succ n ih=>
  intro l a hl ha
  unfold sortsP
  cases hq:acceptB (rdS s q) a [45,62] with
  |false=>
   obtain⟨env,e,g0,g4⟩:=fd_end hs q nm v a 0 (by omega) l (by omega) hq
   exact⟨ha,env,loopK_out e (by simp),g0,g4⟩
  |true=>
   simp only[if_true]
   cases hx:sortP (rdS s q) q.S (a+1) with
   |bad e p a'=>
    obtain⟨env,o',e1⟩:=fd_bad hs q hS nm v a 0 (by omega) l (by omega) hq hx
    exact⟨env,o',l,loopK_out e1 (by simp)⟩
   |ok i a'=>
    simp only[bind_ok]
    obtain⟨rfl,hlt,_⟩:=sort_lt hx
    have e1:=fd_step hs q hS nm v a 0 (by omega) l (by omega) hq hx
    have:=ih (l++[i]) (a+1+1) (by simp;omega) (by omega)
    rw[show loopK (call pg) pg.G [0,4] fc74_b0 (fdS s q a 0 nm l v)=loopK (call pg) pg.G [0,4] fc74_b0 (fdS s q (a+1+1) 0 nm (l++[i]) v) from loopK_norm e1]
    exact this
end
def fieldDeclP(c:Rd)(q:Sp)(at_ a:Nat):PR Sp:=
 if 6≤q.F.length then .bad 2 at_ a
 else(expectP c (acN c a [118,97,114]) [102,105,101,108,100]).bind fun _ a2=>(nameP c a2).bind fun t a3=>(expectP c a3 [58]).bind fun _ a4=>
  (sortP c q.S a4).bind fun i a5=>(sortsP c q.S 2 [i] a5).bind fun l a6=>(expectP c a6 [59]).bind fun _ a7=>
   .ok {q with F:=q.F++[(t.t,l,acceptB c a [118,97,114])]} a7
theorem fieldDecl_eq{s:List UInt8}(hs:s.length≤20000)(q:Sp)(hS:q.S.length≤1000)(hF:q.F.length≤1000)(p a:Nat)(ha:a≤(rdS s q).ts.length):AnsS 74 [.int .i64 p] s q a (fieldDeclP (rdS s q) q p a):=by
 have h:(rdS s q).Sz:=rdX_sz s _ _ _ _ _ hs
 have hn:=h.n
 have l9:=fun G bx tk a o=>ldX9 (G:=G) (bx:=bx) (tk:=tk) (s:=s) (f:=q.f) (S:=q.S.map sPD) (F:=q.F.map fPD) (P:=q.P.map pPD) (A:=q.A.map aPD) (a:=a) (o:=o)
 have hlen:lenD 1 (.tsl 2 70 3 (q.F.map fPD))=some q.F.length:=by rw[lenD_tsl,List.length_map]
 unfold fieldDeclP
 by_cases hq:6≤q.F.length
 ·rw[if_pos hq]
  have hl:=lim_bad (n:=(q.F.length:Int)) (most:=6) p (by omega)
  refine ansS_bad ⟨0,[],[],call_body (fc:=fc74) rfl rfl rfl rfl ?_⟩
  simp only[rH,List.append_nil,rdS]
  simp[fc74,evKC,evK,put,Env.get,entry,Opd.ev,finish,l9,hlen,hl]
 ·rw[if_neg hq]
  have hl:=lim_ok (n:=(q.F.length:Int)) (most:=6) p (by omega)
  have ac:=fun bx=>accept_eq h.toOk a 0 [118,97,114] (by omega) bx []
  rw[acceptN_acN] at ac
  have hb:acN (rdS s q) a [118,97,114]≤a+1:=by unfold acN;split<;>omega
  generalize acceptB (rdS s q) a [118,97,114]=v at *
  generalize acN (rdS s q) a [118,97,114]=a1 at *
  simp only[rH,List.append_nil,rdS] at ac
  cases r1:expectP (rdS s q) a1 [102,105,101,108,100] with
  |bad e p2 a2=>
   obtain⟨o',s1⟩:=(expect_eq h a1 0 [102,105,101,108,100] (by omega)).badT r1
   have s1:=fun bx=>s1 bx []
   simp only[List.map_cons,List.map_nil,List.append_nil,rdS] at s1
   refine ansS_bad ⟨o',[[.p (.str []),.p .nils,.p (.bool v)]],[],call_body (fc:=fc74) rfl rfl rfl rfl ?_⟩
   simp only[rH,List.append_nil,rdS]
   simp[fc74,evKC,evK,put,Env.get,Env.keep,entry,Opd.ev,splice,finish,D.cells,D.one,PD.one,mkAgg,pures,fillD,st_succ,st_zero,l9,hlen,hl,ac,s1]
  |ok u a2=>
   have s1:=fun bx=>(expect_eq h a1 0 [102,105,101,108,100] (by omega)).okT r1 bx []
   obtain⟨e2,hlt2⟩:=expect_lt r1
   simp only[List.map_cons,List.map_nil,List.append_nil,rdS] at s1
   simp only[bind_ok]
   cases r2:nameP (rdS s q) a2 with
   |bad e p2 a3=>
    obtain⟨o',s2⟩:=(rname_eq h a2 0 (by omega) (tok_tlen h _)).badT r2
    have s2:=fun bx=>s2 bx []
    simp only[List.map_nil,List.append_nil,rdS] at s2
    refine ansS_bad ⟨o',[[.p (.str []),.p .nils,.p (.bool v)]],[],call_body (fc:=fc74) rfl rfl rfl rfl ?_⟩
    simp only[rH,List.append_nil,rdS]
    simp[fc74,evKC,evK,put,Env.get,Env.keep,entry,Opd.ev,splice,finish,D.cells,D.one,PD.one,mkAgg,pures,fillD,st_succ,st_zero,l9,hlen,hl,ac,s1,s2]
   |ok t a3=>
    have s2:=fun bx=>(rname_eq h a2 0 (by omega) (tok_tlen h _)).okT r2 bx []
    obtain⟨e3,hlt3,_⟩:=name_lt r2
    simp only[List.map_nil,List.append_nil,Tok.pd,rdS] at s2
    simp only[bind_ok]
    cases r3:expectP (rdS s q) a3 [58] with
    |bad e p2 a4=>
     obtain⟨o',s3⟩:=(expect_eq h a3 0 [58] (by omega)).badT r3
     have s3:=fun bx=>s3 bx []
     simp only[List.map_cons,List.map_nil,List.append_nil,rdS] at s3
     refine ansS_bad ⟨o',[[.p (.str t.t),.p .nils,.p (.bool v)]],[],call_body (fc:=fc74) rfl rfl rfl rfl ?_⟩
     simp only[rH,List.append_nil,rdS]
     simp[fc74,evKC,evK,put,Env.get,Env.keep,entry,Opd.ev,splice,cutAt,finish,D.cells,D.one,PD.one,mkAgg,pures,fillD,st_succ,st_zero,l9,hlen,hl,ac,s1,s2,s3]
    |ok u3 a4=>
     have s3:=fun bx=>(expect_eq h a3 0 [58] (by omega)).okT r3 bx []
     obtain⟨e4,hlt4⟩:=expect_lt r3
     simp only[List.map_cons,List.map_nil,List.append_nil,rdS] at s3
     simp only[bind_ok]
     cases r4:sortP (rdS s q) q.S a4 with
     |bad e p2 a5=>
      obtain⟨o',s4⟩:=(sort_eq hs q (by omega) a4 0 (by omega)).badT r4
      have s4:=fun bx=>s4 bx []
      simp only[List.map_nil,List.append_nil,rdS] at s4
      refine ansS_bad ⟨o',[[.p (.str t.t),.p .nils,.p (.bool v)]],[],call_body (fc:=fc74) rfl rfl rfl rfl ?_⟩
      simp only[rH,List.append_nil,rdS]
      simp[fc74,evKC,evK,evGuard,put,Env.get,Env.keep,entry,Opd.ev,splice,cutAt,clsP,cls,clsR,isCl,isW,apartRW,offB,apartWW,clash,insOk,finish,D.cells,D.one,PD.one,mkAgg,pures,fillD,ld_succ,ld_zero,st_succ,st_zero,l9,hlen,hl,ac,s1,s2,s3,s4,drP,evRest,behind,pairsOk,panOk,SO.uses,SK.slots,Opd.slots,SK.heapless]
     |ok i a5=>
      have s4:=fun bx=>(sort_eq hs q (by omega) a4 0 (by omega)).okT r4 bx []
      obtain⟨e5,hlt5,_⟩:=sort_lt r4
      obtain⟨kc,hkc,hcl⟩:=cls_rd1 h.toOk a4 0 a5 0 [[.p (.str t.t),.p .nils,.p (.bool v)]] [] 123 26
      have hap:=fun bx=>ap_i0 (s:=s) (q:=q) (i:=i) (bx:=bx)
      simp only[List.map_nil,List.append_nil,rdS] at s4 hcl hap
      simp only[bind_ok]
      have hL:=fd_loop hs q hS t.t v 2 [i] a5 rfl (by omega)
      cases r5:sortsP (rdS s q) q.S 2 [i] a5 with
      |bad e p2 a6=>
       rw[r5] at hL
       obtain⟨env,o',l,hL⟩:=hL
       simp only[fdS,fdB,rdS,List.length_cons,List.length_nil,Nat.zero_add,List.map_cons,List.map_nil] at hL
       refine ansS_bad ⟨o',[[.p (.str t.t),.tsl 5 3 1 (l.map iPD),.p (.bool v)]],[l.length],call_body (fc:=fc74) rfl rfl rfl rfl ?_⟩
       simp only[rH,List.append_nil,rdS]
       rcases hkc with rfl |rfl<;>simp[fc74,↓hcl,evKC,evK,put,Env.get,Env.keep,entry,Opd.ev,splice,cutAt,clsP,cls,clsR,isCl,isW,apartRW,offB,apartWW,clash,insOk,finish,D.cells,D.one,PD.one,PD.cells,mkAgg,pures,fillD,fillE,srcD,D.elems?,D.asPD,srcH,ld_succ,ld_zero,st_succ,st_zero,l9,hlen,hl,ac,s1,s2,s3,s4,hap,hL]
      |ok l a6=>
       rw[r5] at hL
       obtain⟨hb6,env,hL,g0,g4⟩:=hL
       simp only[fdS,fdB,rdS,List.length_cons,List.length_nil,Nat.zero_add,List.map_cons,List.map_nil] at hL
       simp only[bind_ok]
       cases r6:expectP (rdS s q) a6 [59] with
       |bad e p2 a7=>
        obtain⟨o',s6⟩:=(expect_eq h a6 0 [59] (by omega)).badT r6
        simp only[List.map_cons,List.map_nil,rdS] at s6
        refine ansS_bad ⟨o',[[.p (.str t.t),.tsl 5 3 1 (l.map iPD),.p (.bool v)]],[l.length],call_body (fc:=fc74) rfl rfl rfl rfl ?_⟩
        simp only[rH,List.append_nil,rdS]
        rcases hkc with rfl |rfl<;>simp[fc74,↓hcl,evKC,evK,put,Env.get,Env.keep,entry,Opd.ev,splice,cutAt,clsP,cls,clsR,isCl,isW,apartRW,offB,apartWW,clash,insOk,finish,D.cells,D.one,PD.one,PD.cells,mkAgg,pures,fillD,fillE,srcD,D.elems?,D.asPD,srcH,ld_succ,ld_zero,st_succ,st_zero,l9,hlen,hl,ac,s1,s2,s3,s4,hap,hL,g0,s6]
       |ok u6 a7=>
        have s6:=(expect_eq h a6 0 [59] (by omega)).okT r6
        simp only[List.map_cons,List.map_nil,rdS] at s6
        simp only[bind_ok]
        have hap2:=fun bx x=>apX9 (bx:=bx) (t:=[l.length]) (s:=s) (f:=q.f) (S:=q.S.map sPD) (F:=q.F.map fPD) (P:=q.P.map pPD) (A:=q.A.map aPD) (x:=x) (by simpa using hF)
        refine ansS_ok ⟨[[.p (.str t.t),.tsl 5 3 1 (l.map iPD),.p (.bool v)]],[l.length],call_body (fc:=fc74) rfl rfl rfl rfl ?_⟩
        have hmap:(q.F++[(t.t,l,v)]).map fPD=q.F.map fPD++[.agg [.str t.t,.slice 1 (l.map iPD),.bool v]]:=by simp[fPD]
        simp only[rH,List.append_nil,rdS,hmap]
        rcases hkc with rfl |rfl<;>simp[fc74,↓hcl,evKC,evK,put,Env.get,Env.keep,entry,Opd.ev,splice,cutAt,sub,clsP,cls,clsR,isCl,isW,apartRW,offB,apartWW,clash,insOk,finish,evRes,D.cells,D.one,PD.one,PD.cells,mkAgg,pures,fillD,fillE,srcD,D.elems?,D.asPD,srcH,D.asPDL,ld_succ,ld_zero,st_succ,st_zero,l9,hlen,hl,ac,s1,s2,s3,s4,hap,hL,g0,g4,s6,hap2,stX9]
end Go.Proofs.YtalgjkpkkdljaaaGreatDoor
namespace Go.Proofs.YtalgjkpkkdljaaaGreatDoor
open Go.Vs
def sepM(c:Rd)(l:List (List UInt8×Nat))(a:Nat):PR Unit:=if l=[] then .ok () a else expectP c a [44]
def paramsP(c:Rd)(S:List (List UInt8×Bool)):Nat→List (List UInt8×Nat)→Nat→PR (List (List UInt8×Nat))
 | 0,l,a=>.ok l a
 |n+1,l,a=>if acceptB c a [93] then .ok l (a+1) else(sepM c l a).bind fun _ a=>(nameP c a).bind fun t a=>(expectP c a [58]).bind fun _ a=>(sortP c S a).bind fun i a=>paramsP c S n (l++[(t.t,i)]) a
def pdB(nm:List UInt8)(l:List PD):List (List D):=[[.p (.str nm),.tsl 5 72 2 l,.p (.int .i64 0),.p (.str []),.p (.int .i64 0),.p .nils,.p (.int .i64 0)]]
def pdS(s:List UInt8)(q:Sp)(a o:Nat)(nm:List UInt8)(l:List (List UInt8×Nat)):St:=⟨[(0,.box 0 0),(4,.box 4 0)],⟨rC (rdS s q) a o::tabB::tabU::tabS::pdB nm (l.map mPD),(rdS s q).tk++[l.length]⟩⟩
theorem pd_loc(s:List UInt8)(q:Sp)(a o:Nat)(nm:List UInt8)(l:List PD)(ex:List (List D))(m:Nat)(out:Out)(env:Env)(ho:out.ren (below 5) (below 6)=some out):
    locD 5 6 (out,⟨env,⟨rC (rdS s q) a o::tabB::tabU::tabS::(pdB nm l++ex),(rdS s q).tk++[m]⟩⟩)=
     (out,⟨env.map fun y=>(y.1,(y.2.ren (below 5) (below 6)).getD .dead),⟨rC (rdS s q) a o::tabB::tabU::tabS::pdB nm l,(rdS s q).tk++[m]⟩⟩):=
 loc_rdT (rdX_ok ..) a o (pdB nm l) _ ex [m] [] out env 5 6 rfl rfl rfl ho
theorem ap_m{s:List UInt8}{q:Sp}{l:List (List UInt8×Nat)}{x:List UInt8}{i:Nat}{bx:List (List D)}(h:l.length≤1000000):appendD 72 2 24 (.tsl 5 72 2 (l.map mPD)) [.agg [.str x,.int .i64 i]] ⟨bx,(rdS s q).tk++[l.length]⟩=some (.tsl 5 72 2 ((l++[(x,i)]).map mPD),⟨bx,(rdS s q).tk++[(l++[(x,i)]).length]⟩):=by
 have hr:roomy (l.length+1) 24=true:=by simp only[roomy,Bool.and_eq_true,decide_eq_true_eq];omega
 simp[appendD,hr,rdS,rdX,mPD]
section
variable {s : List UInt8} (hs : s.length ≤ 20000) (q : Sp) (nm : List UInt8)
include hs
theorem pd_end(a o:Nat)(ha:a≤400000)(l:List (List UInt8×Nat))(hq:acceptB (rdS s q) a [93]=true):∃env,evS (call pg) pg.G iterX fc75_b0 (pdS s q a o nm l)=some (.exit 0,⟨env,(pdS s q (a+1) o nm l).hp⟩)∧env.get 0= .box 0 0∧env.get 4= .box 4 0:=by
 have h:(rdS s q).Sz:=rdX_sz s _ _ _ _ _ hs
 have ac:=fun bx t=>accept_eq h.toOk a o [93] (by omega) bx t
 simp only[rH,acceptN,hq,cond_true] at ac
 have hloc:=fun env=>pd_loc s q (a+1) o nm (l.map mPD) [] l.length (.exit 0) env rfl
 have htk:∀n:Nat,((rdS s q).tk++[n]).length=6:=fun _=>rfl
 simp only[pdS,pdB,List.append_nil] at hloc⊢
 apply Exists.intro
 refine⟨?_,?_,?_⟩
 ·conv=>lhs;simp[fc75_b0,evKC,evK,evGuard,put,Env.get,Env.keep,entry,Opd.ev,splice,cutAt,indexD,D.asInt?,D.asNat?,u8,binD,strBin,unD,boundsD,sliceD,iaddrD,sub,minmaxD,eqvL,PD.eqv,clsP,cls,clsR,isCl,isW,apartRW,offB,apartWW,clash,insOk,finish,evRes,evRes1,mapO,D.cells,PD.cells,D.refsL,D.refs,D.toksL,D.toks,mkAgg,pures,fillD,fillE,appendD,srcD,D.elems?,D.asPD,Int.toNat_natCast,srcH,srcBH,eqD,D.asPDL,isMapC,ld_succ,ld_zero,st_succ,st_zero,oI,oS,oN,oP,oB,oL,oT,oF,oE,ldr0,ldr1,ldr2,ldr3,ldr4,ldr5,ldr6,str1',str3',htk,ac,hloc,D.ren,below,-List.length_append]
 all_goals rfl
theorem pd_bad1(a o:Nat)(ha:a≤400000)(l:List (List UInt8×Nat))(hq:acceptB (rdS s q) a [93]=false){e:Int}{p a':Nat}(hx:sepM (rdS s q) l a= .bad e p a'):
    ∃env o',evS (call pg) pg.G iterX fc75_b0 (pdS s q a o nm l)=some (.pan (faultD e p),⟨env,(pdS s q a' o' nm l).hp⟩):=by
 have h:(rdS s q).Sz:=rdX_sz s _ _ _ _ _ hs
 have ac:=fun bx t=>accept_eq h.toOk a o [93] (by omega) bx t
 simp only[rH,acceptN,hq,cond_false] at ac
 unfold sepM at hx
 have hne:l≠[]:=fun e=>by rw[if_pos e] at hx;cases hx
 rw[if_neg hne] at hx
 obtain⟨o',s1⟩:=(expect_eq h a o [44] (by omega)).badT hx
 simp only[List.map_cons,List.map_nil] at s1
 have hlen:lenD 1 (.tsl 5 72 2 (l.map mPD))=some l.length:=by rw[lenD_tsl,List.length_map]
 have hg:0<l.length:=List.length_pos_iff.2 hne
 have hloc:=fun env=>pd_loc s q a' o' nm (l.map mPD) [] l.length (.pan (faultD e p)) env rfl
 have htk:∀n:Nat,((rdS s q).tk++[n]).length=6:=fun _=>rfl
 simp only[pdS,pdB,List.append_nil] at hloc⊢
 apply Exists.intro
 refine⟨o',?_⟩
 conv=>lhs;simp[fc75_b0,evKC,evK,evGuard,put,Env.get,Env.keep,entry,Opd.ev,splice,cutAt,indexD,D.asInt?,D.asNat?,u8,binD,strBin,unD,boundsD,sliceD,iaddrD,sub,minmaxD,eqvL,PD.eqv,clsP,cls,clsR,isCl,isW,apartRW,offB,apartWW,clash,insOk,finish,evRes,evRes1,mapO,D.cells,PD.cells,D.refsL,D.refs,D.toksL,D.toks,mkAgg,pures,fillD,fillE,appendD,srcD,D.elems?,D.asPD,Int.toNat_natCast,srcH,srcBH,eqD,D.asPDL,isMapC,ld_succ,ld_zero,st_succ,st_zero,oI,oS,oN,oP,oB,oL,oT,oF,oE,ldr0,ldr1,ldr2,ldr3,ldr4,ldr5,ldr6,str1',str3',htk,ac,s1,hlen,hg,hloc,D.ren,below,-List.length_append]
omit hs in
theorem sepM_ok{c:Rd}{l:List (List UInt8×Nat)}{a a1:Nat}{u:Unit}(h:sepM c l a= .ok u a1):(l=[]∧a1=a)∨(l≠[]∧expectP c a [44]= .ok u a1):=by
 unfold sepM at h
 by_cases hk:l=[]
 ·rw[if_pos hk] at h;cases h;exact .inl ⟨hk,rfl⟩
 ·rw[if_neg hk] at h;exact .inr ⟨hk,h⟩
omit hs in
theorem sepM_le{c:Rd}{l:List (List UInt8×Nat)}{a a1:Nat}{u:Unit}(h:sepM c l a= .ok u a1)(ha:a≤c.ts.length):a≤a1∧a1≤c.ts.length:=by
 rcases sepM_ok h with⟨_,rfl⟩ |⟨_,q⟩
 ·exact⟨Nat.le_refl _,ha⟩
 ·obtain⟨e,w⟩:=expect_lt q
  omega
theorem pd_bad2(a o:Nat)(ha:a≤(rdS s q).ts.length)(l:List (List UInt8×Nat))(hq:acceptB (rdS s q) a [93]=false){u:Unit}{a1:Nat}(hx:sepM (rdS s q) l a= .ok u a1){e:Int}{p a':Nat}(hy:nameP (rdS s q) a1= .bad e p a'):
    ∃env o',evS (call pg) pg.G iterX fc75_b0 (pdS s q a o nm l)=some (.pan (faultD e p),⟨env,(pdS s q a' o' nm l).hp⟩):=by
 have h:(rdS s q).Sz:=rdX_sz s _ _ _ _ _ hs
 have hn:=h.n
 have hb1:=(sepM_le hx ha).2
 have ac:=fun bx t=>accept_eq h.toOk a o [93] (by omega) bx t
 simp only[rH,acceptN,hq,cond_false] at ac
 obtain⟨o',s2⟩:=(rname_eq h a1 o (by omega) (tok_tlen h _)).badT hy
 simp only[List.map_nil] at s2
 have hlen:lenD 1 (.tsl 5 72 2 (l.map mPD))=some l.length:=by rw[lenD_tsl,List.length_map]
 have hloc:=fun env=>pd_loc s q a' o' nm (l.map mPD) [] l.length (.pan (faultD e p)) env rfl
 have htk:∀n:Nat,((rdS s q).tk++[n]).length=6:=fun _=>rfl
 simp only[pdS,pdB,List.append_nil] at hloc⊢
 rcases sepM_ok hx with⟨rfl,rfl⟩ |⟨hk,hx⟩
 ·simp only[List.map_nil,List.length_nil] at hlen hloc⊢
  apply Exists.intro
  refine⟨o',?_⟩
  conv=>lhs;simp[fc75_b0,evKC,evK,evGuard,put,Env.get,Env.keep,entry,Opd.ev,splice,cutAt,indexD,D.asInt?,D.asNat?,u8,binD,strBin,unD,boundsD,sliceD,iaddrD,sub,minmaxD,eqvL,PD.eqv,clsP,cls,clsR,isCl,isW,apartRW,offB,apartWW,clash,insOk,finish,evRes,evRes1,mapO,D.cells,PD.cells,D.refsL,D.refs,D.toksL,D.toks,mkAgg,pures,fillD,fillE,appendD,srcD,D.elems?,D.asPD,Int.toNat_natCast,srcH,srcBH,eqD,D.asPDL,isMapC,ld_succ,ld_zero,st_succ,st_zero,oI,oS,oN,oP,oB,oL,oT,oF,oE,ldr0,ldr1,ldr2,ldr3,ldr4,ldr5,ldr6,str1',str3',htk,ac,s2,hlen,hloc,D.ren,below,-List.length_append]
 ·have s1:=(expect_eq h a o [44] (by omega)).okT hx
  simp only[List.map_cons,List.map_nil] at s1
  have hg:0<l.length:=List.length_pos_iff.2 hk
  apply Exists.intro
  refine⟨o',?_⟩
  conv=>lhs;simp[fc75_b0,evKC,evK,evGuard,put,Env.get,Env.keep,entry,Opd.ev,splice,cutAt,indexD,D.asInt?,D.asNat?,u8,binD,strBin,unD,boundsD,sliceD,iaddrD,sub,minmaxD,eqvL,PD.eqv,clsP,cls,clsR,isCl,isW,apartRW,offB,apartWW,clash,insOk,finish,evRes,evRes1,mapO,D.cells,PD.cells,D.refsL,D.refs,D.toksL,D.toks,mkAgg,pures,fillD,fillE,appendD,srcD,D.elems?,D.asPD,Int.toNat_natCast,srcH,srcBH,eqD,D.asPDL,isMapC,ld_succ,ld_zero,st_succ,st_zero,oI,oS,oN,oP,oB,oL,oT,oF,oE,ldr0,ldr1,ldr2,ldr3,ldr4,ldr5,ldr6,str1',str3',htk,ac,s1,s2,hlen,hg,hloc,D.ren,below,-List.length_append]
theorem pd_bad3(a o:Nat)(ha:a≤(rdS s q).ts.length)(l:List (List UInt8×Nat))(hq:acceptB (rdS s q) a [93]=false){u:Unit}{a1:Nat}(hx:sepM (rdS s q) l a= .ok u a1){t:Tok}{a2:Nat}(hy:nameP (rdS s q) a1= .ok t a2)
    {e:Int} {p a':Nat} (hz:expectP (rdS s q) a2 [58]= .bad e p a'):
    ∃env o',evS (call pg) pg.G iterX fc75_b0 (pdS s q a o nm l)=some (.pan (faultD e p),⟨env,(pdS s q a' o' nm l).hp⟩):=by
 have h:(rdS s q).Sz:=rdX_sz s _ _ _ _ _ hs
 have hn:=h.n
 have hb1:=(sepM_le hx ha).2
 have ac:=fun bx t=>accept_eq h.toOk a o [93] (by omega) bx t
 simp only[rH,acceptN,hq,cond_false] at ac
 have s2:=(rname_eq h a1 o (by omega) (tok_tlen h _)).okT hy
 obtain⟨rfl,hlt2,_⟩:=name_lt hy
 obtain⟨o',s3⟩:=(expect_eq h (a1+1) o [58] (by omega)).badT hz
 simp only[List.map_cons,List.map_nil,Tok.pd] at s2 s3
 have hlen:lenD 1 (.tsl 5 72 2 (l.map mPD))=some l.length:=by rw[lenD_tsl,List.length_map]
 have hloc:=fun env=>pd_loc s q a' o' nm (l.map mPD) [[.p (.int .i64 t.k),.p (.str t.t),.p (.int .i64 t.p)]] l.length (.pan (faultD e p)) env rfl
 have htk:∀n:Nat,((rdS s q).tk++[n]).length=6:=fun _=>rfl
 simp only[pdS,pdB,List.cons_append,List.nil_append] at hloc⊢
 rcases sepM_ok hx with⟨rfl,rfl⟩ |⟨hk,hx⟩
 ·simp only[List.map_nil,List.length_nil] at hlen hloc⊢
  apply Exists.intro
  refine⟨o',?_⟩
  conv=>lhs;simp[fc75_b0,evKC,evK,evGuard,put,Env.get,Env.keep,entry,Opd.ev,splice,cutAt,indexD,D.asInt?,D.asNat?,u8,binD,strBin,unD,boundsD,sliceD,iaddrD,sub,minmaxD,eqvL,PD.eqv,clsP,cls,clsR,isCl,isW,apartRW,offB,apartWW,clash,insOk,finish,evRes,evRes1,mapO,D.cells,PD.cells,D.refsL,D.refs,D.toksL,D.toks,mkAgg,pures,fillD,fillE,appendD,srcD,D.elems?,D.asPD,Int.toNat_natCast,srcH,srcBH,eqD,D.asPDL,isMapC,ld_succ,ld_zero,st_succ,st_zero,oI,oS,oN,oP,oB,oL,oT,oF,oE,ldr0,ldr1,ldr2,ldr3,ldr4,ldr5,ldr6,str1',str3',htk,ac,s2,s3,hlen,hloc,D.ren,below,-List.length_append]
 ·have s1:=(expect_eq h a o [44] (by omega)).okT hx
  simp only[List.map_cons,List.map_nil] at s1
  have hg:0<l.length:=List.length_pos_iff.2 hk
  apply Exists.intro
  refine⟨o',?_⟩
  conv=>lhs;simp[fc75_b0,evKC,evK,evGuard,put,Env.get,Env.keep,entry,Opd.ev,splice,cutAt,indexD,D.asInt?,D.asNat?,u8,binD,strBin,unD,boundsD,sliceD,iaddrD,sub,minmaxD,eqvL,PD.eqv,clsP,cls,clsR,isCl,isW,apartRW,offB,apartWW,clash,insOk,finish,evRes,evRes1,mapO,D.cells,PD.cells,D.refsL,D.refs,D.toksL,D.toks,mkAgg,pures,fillD,fillE,appendD,srcD,D.elems?,D.asPD,Int.toNat_natCast,srcH,srcBH,eqD,D.asPDL,isMapC,ld_succ,ld_zero,st_succ,st_zero,oI,oS,oN,oP,oB,oL,oT,oF,oE,ldr0,ldr1,ldr2,ldr3,ldr4,ldr5,ldr6,str1',str3',htk,ac,s1,s2,s3,hlen,hg,hloc,D.ren,below,-List.length_append]
end
end Go.Proofs.YtalgjkpkkdljaaaGreatDoor
namespace Go.Proofs.YtalgjkpkkdljaaaGreatDoor
open Go.Vs
section
variable {s : List UInt8} (hs : s.length ≤ 20000) (q : Sp) (hS : q.S.length ≤ 1000) (nm : List UInt8)
include hs hS
theorem pd_bad4(a o:Nat)(ha:a≤(rdS s q).ts.length)(l:List (List UInt8×Nat))(hq:acceptB (rdS s q) a [93]=false){u:Unit}{a1:Nat}(hx:sepM (rdS s q) l a= .ok u a1){t:Tok}{a2:Nat}(hy:nameP (rdS s q) a1= .ok t a2)
    {u3:Unit} {a3:Nat} (hz:expectP (rdS s q) a2 [58]= .ok u3 a3) {e:Int} {p a':Nat} (hw:sortP (rdS s q) q.S a3= .bad e p a'):
    ∃env o',evS (call pg) pg.G iterX fc75_b0 (pdS s q a o nm l)=some (.pan (faultD e p),⟨env,(pdS s q a' o' nm l).hp⟩):=by
 have h:(rdS s q).Sz:=rdX_sz s _ _ _ _ _ hs
 have hn:=h.n
 have hb1:=(sepM_le hx ha).2
 have ac:=fun bx t=>accept_eq h.toOk a o [93] (by omega) bx t
 simp only[rH,acceptN,hq,cond_false] at ac
 have s2:=(rname_eq h a1 o (by omega) (tok_tlen h _)).okT hy
 obtain⟨rfl,hlt2,_⟩:=name_lt hy
 have s3:=(expect_eq h (a1+1) o [58] (by omega)).okT hz
 obtain⟨rfl,hlt3⟩:=expect_lt hz
 obtain⟨o',s4⟩:=(sort_eq hs q (by omega) (a1+1+1) o (by omega)).badT hw
 simp only[List.map_cons,List.map_nil,Tok.pd] at s2 s3 s4
 have hlen:lenD 1 (.tsl 5 72 2 (l.map mPD))=some l.length:=by rw[lenD_tsl,List.length_map]
 have hloc:=fun env=>pd_loc s q a' o' nm (l.map mPD) [[.p (.int .i64 t.k),.p (.str t.t),.p (.int .i64 t.p)]] l.length (.pan (faultD e p)) env rfl
 have htk:∀n:Nat,((rdS s q).tk++[n]).length=6:=fun _=>rfl
 simp only[pdS,pdB,List.cons_append,List.nil_append] at hloc⊢
 rcases sepM_ok hx with⟨rfl,rfl⟩ |⟨hk,hx⟩
 ·simp only[List.map_nil,List.length_nil] at hlen hloc⊢
  apply Exists.intro
  refine⟨o',?_⟩
  conv=>lhs;simp[fc75_b0,evKC,evK,evGuard,put,Env.get,Env.keep,entry,Opd.ev,splice,cutAt,indexD,D.asInt?,D.asNat?,u8,binD,strBin,unD,boundsD,sliceD,iaddrD,sub,minmaxD,eqvL,PD.eqv,clsP,cls,clsR,isCl,isW,apartRW,offB,apartWW,clash,insOk,finish,evRes,evRes1,mapO,D.cells,PD.cells,D.refsL,D.refs,D.toksL,D.toks,mkAgg,pures,fillD,fillE,appendD,srcD,D.elems?,D.asPD,Int.toNat_natCast,srcH,srcBH,eqD,D.asPDL,isMapC,ld_succ,ld_zero,st_succ,st_zero,oI,oS,oN,oP,oB,oL,oT,oF,oE,ldr0,ldr1,ldr2,ldr3,ldr4,ldr5,ldr6,str1',str3',htk,ac,s2,s3,s4,hlen,hloc,D.ren,below,-List.length_append,drP,evRest,behind,pairsOk,panOk,SO.uses,SK.slots,Opd.slots,SK.heapless]
 ·have s1:=(expect_eq h a o [44] (by omega)).okT hx
  simp only[List.map_cons,List.map_nil] at s1
  have hg:0<l.length:=List.length_pos_iff.2 hk
  apply Exists.intro
  refine⟨o',?_⟩
  conv=>lhs;simp[fc75_b0,evKC,evK,evGuard,put,Env.get,Env.keep,entry,Opd.ev,splice,cutAt,indexD,D.asInt?,D.asNat?,u8,binD,strBin,unD,boundsD,sliceD,iaddrD,sub,minmaxD,eqvL,PD.eqv,clsP,cls,clsR,isCl,isW,apartRW,offB,apartWW,clash,insOk,finish,evRes,evRes1,mapO,D.cells,PD.cells,D.refsL,D.refs,D.toksL,D.toks,mkAgg,pures,fillD,fillE,appendD,srcD,D.elems?,D.asPD,Int.toNat_natCast,srcH,srcBH,eqD,D.asPDL,isMapC,ld_succ,ld_zero,st_succ,st_zero,oI,oS,oN,oP,oB,oL,oT,oF,oE,ldr0,ldr1,ldr2,ldr3,ldr4,ldr5,ldr6,str1',str3',htk,ac,s1,s2,s3,s4,hlen,hg,hloc,D.ren,below,-List.length_append,drP,evRest,behind,pairsOk,panOk,SO.uses,SK.slots,Opd.slots,SK.heapless]
theorem pd_step(a o:Nat)(ha:a≤(rdS s q).ts.length)(l:List (List UInt8×Nat))(hla:l.length≤a)(hq:acceptB (rdS s q) a [93]=false){u:Unit}{a1:Nat}(hx:sepM (rdS s q) l a= .ok u a1){t:Tok}{a2:Nat}(hy:nameP (rdS s q) a1= .ok t a2)
    {u3:Unit} {a3:Nat} (hz:expectP (rdS s q) a2 [58]= .ok u3 a3) {i a':Nat} (hw:sortP (rdS s q) q.S a3= .ok i a'):
    evS (call pg) pg.G iterX fc75_b0 (pdS s q a o nm l)=some (.norm,pdS s q a' o nm (l++[(t.t,i)])):=by
 have h:(rdS s q).Sz:=rdX_sz s _ _ _ _ _ hs
 have hn:=h.n
 have hb1:=(sepM_le hx ha).2
 have ac:=fun bx t=>accept_eq h.toOk a o [93] (by omega) bx t
 simp only[rH,acceptN,hq,cond_false] at ac
 have s2:=(rname_eq h a1 o (by omega) (tok_tlen h _)).okT hy
 obtain⟨rfl,hlt2,_⟩:=name_lt hy
 have s3:=(expect_eq h (a1+1) o [58] (by omega)).okT hz
 obtain⟨rfl,hlt3⟩:=expect_lt hz
 have s4:=(sort_eq hs q (by omega) (a1+1+1) o (by omega)).okT hw
 simp only[List.map_cons,List.map_nil,Tok.pd] at s2 s3 s4
 have hlen:lenD 1 (.tsl 5 72 2 (l.map mPD))=some l.length:=by rw[lenD_tsl,List.length_map]
 have hloc:=fun env=>pd_loc s q a' o nm ((l++[(t.t,i)]).map mPD) [[.p (.int .i64 t.k),.p (.str t.t),.p (.int .i64 t.p)]] (l++[(t.t,i)]).length .norm env rfl
 have htk:∀n:Nat,((rdS s q).tk++[n]).length=6:=fun _=>rfl
 have hap:=fun bx=>ap_m (s:=s) (q:=q) (l:=l) (x:=t.t) (i:=i) (bx:=bx) (by omega)
 rcases sepM_ok hx with⟨rfl,rfl⟩ |⟨hk,hx⟩
 ·obtain⟨kc,hkc,hcl⟩:=cls_rd1 h.toOk (a1+1+1) o a' o (pdB nm []++[[.p (.int .i64 t.k),.p (.str t.t),.p (.int .i64 t.p)]]) [0] 123 44
  simp only[pdB,List.cons_append,List.nil_append] at hcl
  simp only[List.nil_append] at hap hloc
  simp only[pdS,pdB,List.cons_append,List.nil_append,List.map_nil,List.length_nil,List.map_cons,List.length_cons,Nat.zero_add] at hlen hloc hap⊢
  rcases hkc with rfl |rfl<;>simp[fc75_b0,↓hcl,evKC,evK,put,Env.get,Env.keep,Opd.ev,splice,cutAt,binD,unD,clsP,cls,clsR,isCl,isW,apartRW,offB,apartWW,clash,insOk,D.cells,PD.cells,mkAgg,pures,fillD,fillE,srcD,D.elems?,D.asPD,srcH,ld_succ,ld_zero,st_succ,st_zero,oP,htk,ac,s2,s3,s4,hap,hlen,hloc,D.ren,below,-List.length_append]
 ·have s1:=(expect_eq h a o [44] (by omega)).okT hx
  simp only[List.map_cons,List.map_nil] at s1
  have hg:0<l.length:=List.length_pos_iff.2 hk
  obtain⟨kc,hkc,hcl⟩:=cls_rd1 h.toOk (a1+1+1) o a' o (pdB nm (l.map mPD)++[[.p (.int .i64 t.k),.p (.str t.t),.p (.int .i64 t.p)]]) [l.length] 123 44
  simp only[pdB,List.cons_append,List.nil_append] at hcl
  simp only[pdS,pdB,List.cons_append,List.nil_append] at hloc⊢
  rcases hkc with rfl |rfl<;>simp[fc75_b0,↓hcl,evKC,evK,put,Env.get,Env.keep,Opd.ev,splice,cutAt,binD,unD,clsP,cls,clsR,isCl,isW,apartRW,offB,apartWW,clash,insOk,D.cells,PD.cells,mkAgg,pures,fillD,fillE,srcD,D.elems?,D.asPD,srcH,ld_succ,ld_zero,st_succ,st_zero,oP,htk,ac,s1,s2,s3,s4,hap,hlen,hg,hloc,D.ren,below,-List.length_append,-List.map_append]
theorem pd_loop:∀(m a:Nat) (l:List (List UInt8×Nat)),a≤(rdS s q).ts.length→l.length≤a→(rdS s q).ts.length-a<m→match paramsP (rdS s q) q.S m l a with
    | .ok l' a'=>a'≤(rdS s q).ts.length∧∃env,loopK (call pg) pg.G [0,4] fc75_b0 (pdS s q a 0 nm l)=some (.exit 0,⟨env,(pdS s q a' 0 nm l').hp⟩)∧env.get 0= .box 0 0∧env.get 4= .box 4 0
    | .bad e p a'=>∃env o' l',loopK (call pg) pg.G [0,4] fc75_b0 (pdS s q a 0 nm l)=some (.pan (faultD e p),⟨env,(pdS s q a' o' nm l').hp⟩):=by
 have h:(rdS s q).Sz:=rdX_sz s _ _ _ _ _ hs
 have hn:=h.n
 intro m
 induction m with
 |zero=>intro a l _ _ h2;omega
 |succ m ih=>
  intro a l ha hla hm
  unfold paramsP
  cases hq:acceptB (rdS s q) a [93] with
  |true=>
   obtain⟨env,e,g0,g4⟩:=pd_end hs q nm a 0 (by omega) l hq
   exact⟨accept_lt' hq,env,loopK_out e (by simp),g0,g4⟩
  |false=>
   simp only[Bool.false_eq_true,if_false]
   cases hx:sepM (rdS s q) l a with
   |bad e p a'=>
    obtain⟨env,o',e1⟩:=pd_bad1 hs q nm a 0 (by omega) l hq hx
    exact⟨env,o',l,loopK_out e1 (by simp)⟩
   |ok u a1=>
    simp only[bind_ok]
    obtain⟨hle1,hb1⟩:=sepM_le hx ha
    cases hy:nameP (rdS s q) a1 with
    |bad e p a'=>
     obtain⟨env,o',e1⟩:=pd_bad2 hs q nm a 0 ha l hq hx hy
     exact⟨env,o',l,loopK_out e1 (by simp)⟩
    |ok t a2=>
     simp only[bind_ok]
     cases hz:expectP (rdS s q) a2 [58] with
     |bad e p a'=>
      obtain⟨env,o',e1⟩:=pd_bad3 hs q nm a 0 ha l hq hx hy hz
      exact⟨env,o',l,loopK_out e1 (by simp)⟩
     |ok u3 a3=>
      simp only[bind_ok]
      cases hw:sortP (rdS s q) q.S a3 with
      |bad e p a'=>
       obtain⟨env,o',e1⟩:=pd_bad4 hs q hS nm a 0 ha l hq hx hy hz hw
       exact⟨env,o',l,loopK_out e1 (by simp)⟩
      |ok i a'=>
       simp only[bind_ok]
       have e1:=pd_step hs q hS nm a 0 ha l hla hq hx hy hz hw
       obtain⟨w1,w2,_⟩:=name_lt hy
       obtain⟨w3,w4⟩:=expect_lt hz
       obtain⟨w5,w6,_⟩:=sort_lt hw
       have:=ih a' (l++[(t.t,i)]) (by omega) (by simp;omega) (by omega)
       rw[show loopK (call pg) pg.G [0,4] fc75_b0 (pdS s q a 0 nm l)=loopK (call pg) pg.G [0,4] fc75_b0 (pdS s q a' 0 nm (l++[(t.t,i)])) from loopK_norm e1]
       exact this
end
def predDeclP(c:Rd)(q:Sp)(at_ a:Nat):PR Sp:=
 if 8≤q.P.length then .bad 2 at_ a
 else(nameP c (a+1)).bind fun t a2=>(expectP c a2 [91]).bind fun _ a3=>(paramsP c q.S (c.ts.length+1) [] a3).bind fun l a4=>(blockP c a4).bind fun n a5=>
  .ok {q with P:=q.P++[(t.t,l,n)]} a5
theorem predDecl_eq{s:List UInt8}(hs:s.length≤20000)(q:Sp)(hS:q.S.length≤1000)(hP:q.P.length≤1000)(p a:Nat)(ha:a≤(rdS s q).ts.length):AnsS 75 [.int .i64 p] s q a (predDeclP (rdS s q) q p a):=by
 have h:(rdS s q).Sz:=rdX_sz s _ _ _ _ _ hs
 have hn:=h.n
 have l10:=fun G bx tk a o=>ldX10 (G:=G) (bx:=bx) (tk:=tk) (s:=s) (f:=q.f) (S:=q.S.map sPD) (F:=q.F.map fPD) (P:=q.P.map pPD) (A:=q.A.map aPD) (a:=a) (o:=o)
 have hlen:lenD 1 (.tsl 3 41 7 (q.P.map pPD))=some q.P.length:=by rw[lenD_tsl,List.length_map]
 unfold predDeclP
 by_cases hq:8≤q.P.length
 ·rw[if_pos hq]
  have hl:=lim_bad (n:=(q.P.length:Int)) (most:=8) p (by omega)
  refine ansS_bad ⟨0,[],[],call_body (fc:=fc75) rfl rfl rfl rfl ?_⟩
  simp only[rH,List.append_nil,rdS]
  simp[fc75,evKC,evK,put,Env.get,entry,Opd.ev,finish,l10,hlen,hl]
 ·rw[if_neg hq]
  have hl:=lim_ok (n:=(q.P.length:Int)) (most:=8) p (by omega)
  have hw:=addw1 (a:=a) (by omega)
  cases r1:nameP (rdS s q) (a+1) with
  |bad e p2 a2=>
   obtain⟨o',s1⟩:=(rname_eq h (a+1) 0 (by omega) (tok_tlen h _)).badT r1
   have s1:=fun bx=>s1 bx []
   simp only[List.map_nil,List.append_nil,rdS] at s1
   refine ansS_bad ⟨o',[],[],call_body (fc:=fc75) rfl rfl rfl rfl ?_⟩
   simp only[rH,List.append_nil,rdS]
   simp[fc75,evKC,evK,put,Env.get,Env.keep,entry,Opd.ev,binD,finish,ldr1,str1',l10,hlen,hl,ldr1,hw,str1',s1]
  |ok t a2=>
   have s1:=fun bx=>(rname_eq h (a+1) 0 (by omega) (tok_tlen h _)).okT r1 bx []
   obtain⟨rfl,hlt,_⟩:=name_lt r1
   simp only[List.map_nil,List.append_nil,Tok.pd,rdS] at s1
   simp only[bind_ok]
   cases r2:expectP (rdS s q) (a+1+1) [91] with
   |bad e p2 a3=>
    obtain⟨o',s2⟩:=(expect_eq h (a+1+1) 0 [91] (by omega)).badT r2
    have s2:=fun bx=>s2 bx [0]
    simp only[List.map_cons,List.map_nil,rdS] at s2
    refine ansS_bad ⟨o',pdB t.t [],[0],call_body (fc:=fc75) rfl rfl rfl rfl ?_⟩
    have htk:(rdX s q.f (q.S.map sPD) (q.F.map fPD) (q.P.map pPD) (q.A.map aPD)).tk.length=5:=rfl
    simp only[rH,List.append_nil,rdS,pdB]
    simp[fc75,evKC,evK,put,Env.get,Env.keep,entry,Opd.ev,splice,cutAt,binD,finish,D.cells,D.one,PD.one,mkAgg,pures,fillD,isMapC,st_succ,st_zero,ldr1,str1',l10,hlen,hl,ldr1,hw,str1',s1,s2,tokbD,tokD,htk]
   |ok u a3=>
    have s2:=fun bx=>(expect_eq h (a+1+1) 0 [91] (by omega)).okT r2 bx [0]
    obtain⟨rfl,hlt2⟩:=expect_lt r2
    simp only[List.map_cons,List.map_nil,rdS] at s2
    simp only[bind_ok]
    have htk:(rdX s q.f (q.S.map sPD) (q.F.map fPD) (q.P.map pPD) (q.A.map aPD)).tk.length=5:=rfl
    have hL:=pd_loop hs q hS t.t ((rdS s q).ts.length+1) (a+1+1+1) [] (by omega) (by simp) (by omega)
    cases r3:paramsP (rdS s q) q.S ((rdS s q).ts.length+1) [] (a+1+1+1) with
    |bad e p2 a4=>
     rw[r3] at hL
     obtain⟨env,o',l,hL⟩:=hL
     simp only[pdS,pdB,rdS,List.length_nil,List.map_nil] at hL
     refine ansS_bad ⟨o',pdB t.t (l.map mPD),[l.length],call_body (fc:=fc75) rfl rfl rfl rfl ?_⟩
     simp only[rH,List.append_nil,rdS,pdB]
     simp[fc75,evKC,evK,put,Env.get,Env.keep,entry,Opd.ev,splice,cutAt,binD,finish,D.cells,D.one,PD.one,mkAgg,pures,fillD,isMapC,st_succ,st_zero,ldr1,str1',l10,hlen,hl,ldr1,hw,str1',s1,s2,tokbD,tokD,htk,hL]
    |ok l a4=>
     rw[r3] at hL
     obtain⟨hb4,env,hL,g0,g4⟩:=hL
     simp only[pdS,pdB,rdS,List.length_nil,List.map_nil] at hL
     simp only[bind_ok]
     have hbl:=block_eq h a4 hb4
     cases r4:blockP (rdS s q) a4 with
     |bad e p2 a5=>
      obtain⟨o',s4⟩:=hbl.badT r4
      simp only[List.map_nil,rdS] at s4
      refine ansS_bad ⟨o',pdB t.t (l.map mPD),[l.length],call_body (fc:=fc75) rfl rfl rfl rfl ?_⟩
      simp only[rH,List.append_nil,rdS,pdB]
      simp[fc75,evKC,evK,put,Env.get,Env.keep,entry,Opd.ev,splice,cutAt,binD,finish,D.cells,D.one,PD.one,mkAgg,pures,fillD,isMapC,st_succ,st_zero,ldr1,str1',l10,hlen,hl,ldr1,hw,str1',s1,s2,tokbD,tokD,htk,hL,g0,s4]
     |ok n a5=>
      have s4:=hbl.okT r4
      have hkn:=pone_kids n
      have hcn:=kids_cells n
      simp only[List.map_nil,rdS,pd_cells n,Nd.cells] at s4
      simp only[bind_ok]
      have hap2:=fun bx x=>apX10 (bx:=bx) (t:=[l.length]) (s:=s) (f:=q.f) (S:=q.S.map sPD) (F:=q.F.map fPD) (P:=q.P.map pPD) (A:=q.A.map aPD) (x:=x) (by simpa using hP)
      have hmap:(q.P++[(t.t,l,n)]).map pPD=q.P.map pPD++[.agg (.str t.t:: .slice 2 (l.map mPD)::n.cells)]:=by simp[pPD]
      refine ansS_ok ⟨[.p (.str t.t):: .tsl 5 72 2 (l.map mPD)::n.cells.map .p],[l.length],call_body (fc:=fc75) rfl rfl rfl rfl ?_⟩
      simp only[rH,List.append_nil,rdS,hmap,Nd.cells,List.map_cons,List.map_nil]
      simp[fc75,evKC,evK,put,Env.get,Env.keep,entry,Opd.ev,splice,cutAt,binD,sub,clsP,cls,clsR,isCl,isW,apartRW,offB,apartWW,clash,insOk,finish,evRes,D.cells,PD.cells,mkAgg,pures,fillD,fillE,srcD,D.elems?,D.asPD,srcH,D.asPDL,isMapC,ld_succ,ld_zero,st_succ,st_zero,oP,ldr1,str1',l10,hlen,hl,ldr1,hw,str1',s1,s2,tokbD,tokD,htk,hL,g0,g4,s4,hap2,stX10,hkn]
end Go.Proofs.YtalgjkpkkdljaaaGreatDoor
namespace Go.Proofs.YtalgjkpkkdljaaaGreatDoor
open Go.Vs
def declP(c:Rd)(q:Sp)(a:Nat):PR Sp:=
 if(c.tok a).t=[115,111,114,116] then sortDeclP c q (c.tok a).p a
 else if(c.tok a).t=[118,97,114]∨(c.tok a).t=[102,105,101,108,100] then fieldDeclP c q (c.tok a).p a
 else if(c.tok a).t=[112,114,101,100] then predDeclP c q (c.tok a).p a
 else if(c.tok a).t=[102,97,99,116] then factDeclP c q (c.tok a).p a
 else wrongP c a
theorem AnsS.okU{g:Nat}{args:List PD}{s:List UInt8}{q q':Sp}{a a':Nat}{r:PR Sp}(h:AnsS g args s q a r)(e:r= .ok q' a')(bx:List (List D)):
    callD (call pg) g (.box 0 0::args.map .p) ⟨rC (rdS s q) a 0::tabB::tabU::tabS::bx,(rdS s q).tk⟩=some (.val .undef,⟨rC (rdS s q') a' 0::tabB::tabU::tabS::bx,(rdS s q').tk⟩):=by
 subst e
 have:=h bx []
 simpa only[rH,List.append_nil] using this
theorem AnsS.badU{g:Nat}{args:List PD}{s:List UInt8}{q:Sp}{a a':Nat}{e:Int}{p:Nat}{r:PR Sp}(h:AnsS g args s q a r)(w:r= .bad e p a'):
    ∃o',∀bx:List (List D),callD (call pg) g (.box 0 0::args.map .p) ⟨rC (rdS s q) a 0::tabB::tabU::tabS::bx,(rdS s q).tk⟩=some (.pan (faultD e p),⟨rC (rdS s q) a' o'::tabB::tabU::tabS::bx,(rdS s q).tk⟩):=by
 subst w
 obtain⟨o',h⟩:=h
 refine⟨o',fun bx=>?_⟩
 have:=h bx []
 simpa only[rH,List.append_nil] using this
theorem decl_of{s:List UInt8}(hs:s.length≤20000)(q:Sp)(a:Nat)(ha:a≤(rdS s q).ts.length){g:Nat}{r:PR Sp}(hr:AnsS g [.int .i64 ((rdS s q).tok a).p] s q a r)
    (hg:g=73∧((rdS s q).tok a).t=[115,111,114,116]∨g=74∧(((rdS s q).tok a).t=[118,97,114]∨((rdS s q).tok a).t=[102,105,101,108,100])∨g=75∧((rdS s q).tok a).t=[112,114,101,100]∨g=76∧((rdS s q).tok a).t=[102,97,99,116]):AnsS 42 [] s q a r:=by
 have h:(rdS s q).Sz:=rdX_sz s _ _ _ _ _ hs
 have hn:=h.n
 have lk:=fun bx=>look_at h.toOk a 0 (by omega) bx []
 simp only[rH,List.append_nil] at lk
 generalize (rdS s q).tok a=t at *
 cases r with
 |ok q' a'=>
  have s1:=hr.okU rfl
  simp only[List.map_cons,List.map_nil] at s1
  refine ansS_ok ⟨[[.p (.int .i64 t.k),.p (.str t.t),.p (.int .i64 t.p)]],[],call_body (fc:=fc42) rfl rfl rfl rfl ?_⟩
  simp only[rH,List.append_nil]
  rcases hg with⟨rfl,e⟩ |⟨rfl,e |e⟩ |⟨rfl,e⟩ |⟨rfl,e⟩<;>rw[e] at lk⊢<;>simp[fc42,evKC,evK,put,Env.get,Env.keep,entry,Opd.ev,splice,cutAt,binD,strBin,finish,evRes,D.cells,D.one,PD.one,ld_succ,ld_zero,st_succ,st_zero,lk,s1]
 |bad e p a'=>
  obtain⟨o',s1⟩:=hr.badU rfl
  simp only[List.map_cons,List.map_nil] at s1
  refine ansS_bad ⟨o',[[.p (.int .i64 t.k),.p (.str t.t),.p (.int .i64 t.p)]],[],call_body (fc:=fc42) rfl rfl rfl rfl ?_⟩
  simp only[rH,List.append_nil]
  rcases hg with⟨rfl,e⟩ |⟨rfl,e |e⟩ |⟨rfl,e⟩ |⟨rfl,e⟩<;>rw[e] at lk⊢<;>simp[fc42,evKC,evK,put,Env.get,Env.keep,entry,Opd.ev,splice,cutAt,binD,strBin,finish,D.cells,D.one,PD.one,ld_succ,ld_zero,st_succ,st_zero,lk,s1]
structure Sp.Few (q:Sp):Prop where
 f:q.f.length≤1000
 S:q.S.length≤1000
 F:q.F.length≤1000
 P:q.P.length≤1000
 A:q.A.length≤1000
theorem decl_eq{s:List UInt8}(hs:s.length≤20000)(q:Sp)(hq:q.Few)(a:Nat)(ha:a≤(rdS s q).ts.length):AnsS 42 [] s q a (declP (rdS s q) q a):=by
 have h:(rdS s q).Sz:=rdX_sz s _ _ _ _ _ hs
 have hn:=h.n
 unfold declP
 by_cases h1:((rdS s q).tok a).t=[115,111,114,116]
 ·rw[if_pos h1]
  exact decl_of hs q a ha (sortDecl_eq hs q hq.S _ a (by omega)) (.inl ⟨rfl,h1⟩)
 rw[if_neg h1]
 by_cases h2:((rdS s q).tok a).t=[118,97,114]∨((rdS s q).tok a).t=[102,105,101,108,100]
 ·rw[if_pos h2]
  exact decl_of hs q a ha (fieldDecl_eq hs q hq.S hq.F _ a ha) (.inr (.inl ⟨rfl,h2⟩))
 rw[if_neg h2]
 by_cases h3:((rdS s q).tok a).t=[112,114,101,100]
 ·rw[if_pos h3]
  exact decl_of hs q a ha (predDecl_eq hs q hq.S hq.P _ a ha) (.inr (.inr (.inl ⟨rfl,h3⟩)))
 rw[if_neg h3]
 by_cases h4:((rdS s q).tok a).t=[102,97,99,116]
 ·rw[if_pos h4]
  exact decl_of hs q a ha (factDecl_eq hs q hq.A _ a (by omega)) (.inr (.inr (.inr ⟨rfl,h4⟩)))
 rw[if_neg h4]
 have lk:=fun bx=>look_at h.toOk a 0 (by omega) bx []
 have wr:=fun bx=>wrong_eq h a 0 (by omega) bx []
 simp only[rH,List.append_nil] at lk wr
 unfold wrongP
 generalize (rdS s q).tok a=t at *
 have g1:(t.t==[115,111,114,116])=false:=by simp[h1]
 have g2:(t.t==[118,97,114])=false:=by simp;exact fun e=>h2 (.inl e)
 have g2':(t.t==[102,105,101,108,100])=false:=by simp;exact fun e=>h2 (.inr e)
 have g3:(t.t==[112,114,101,100])=false:=by simp[h3]
 have g4:(t.t==[102,97,99,116])=false:=by simp[h4]
 refine ansS_bad ⟨0,[[.p (.int .i64 t.k),.p (.str t.t),.p (.int .i64 t.p)]],[],call_body (fc:=fc42) rfl rfl rfl rfl ?_⟩
 simp only[rH,List.append_nil]
 simp[fc42,evKC,evK,put,Env.get,Env.keep,entry,Opd.ev,splice,cutAt,binD,strBin,finish,D.cells,D.one,PD.one,ld_succ,ld_zero,st_succ,st_zero,lk,wr,g1,g2,g2',g3,g4]
def skipP(c:Rd):Nat→Nat→Nat
 | 0,a=>a
 |n+1,a=>if a<c.ts.length then(if(c.tok a).t=[59]∨(c.tok a).t=[125] then a+1 else skipP c n (a+1)) else a
theorem tokD_iar{c:Rd}{i:Nat}(h:i<c.ts.length):iaddrD none 3 (.p (slP 3 (c.l.map Tok.pd))) (i:Int)=some (.ro (c.tok i).pd.cells 0):=iar h
theorem sk_loop{c:Rd}(h:c.Sz)(o:Nat)(bx:List (List D))(tk:List Nat):∀(n a:Nat) (e0:Env),e0.keep [0]=[(0,.box 0 0)]→a≤c.ts.length→c.ts.length-a<n→
    ∃out env,(out= .exit 0∨out= .ret)∧loopK (call pg) pg.G [0] fc44_b0 ⟨e0,⟨rC c a o::bx,tk⟩⟩=some (out,⟨env,⟨rC c (skipP c n a) o::bx,tk⟩⟩):=by
 intro n
 induction n with
 |zero=>intro a _ _ _ h2;omega
 |succ n ih=>
  intro a e0 he0 ha hn
  unfold skipP
  by_cases hlt:a<c.ts.length
  ·rw[if_pos hlt]
   have hlt':(a:Int)<(c.ts.length:Int):=by omega
   have hi:=tokD_iar hlt
   have hw:=addw1 (a:=a) (by have:=h.n;omega)
   simp only[Tok.pd,PD.cells] at hi
   generalize c.tok a=t at *
   have l1:∀G H,loadD G H none (.ro [.int .i64 t.k,.str t.t,.int .i64 t.p] 1)=some (.p (.str t.t)):=fun _ _=>rfl
   by_cases he:t.t=[59]∨t.t=[125]
   ·rw[if_pos he]
    refine⟨.ret,[(0,.box 0 0),(36,.p (.bool true))],.inr rfl,loopK_out ?_ (by simp)⟩
    rw[he0]
    rcases he with e |e<;>rw[e] at l1 hi<;>simp[fc44_b0,evKC,evK,evGuard,put,Env.get,Env.keep,Opd.ev,D.asInt?,binD,strBin,clsP,cls,clsR,isCl,isW,apartRW,offB,apartWW,clash,insOk,List.map,ldr0,ldr1,lenr,hlt,hi,l1,hw,str1']
   ·rw[if_neg he]
    have g1:(t.t==[59])=false:=by simp;exact fun e=>he (.inl e)
    have g2:(t.t==[125])=false:=by simp;exact fun e=>he (.inr e)
    obtain⟨out,env,ho,e⟩:=ih (a+1) [(0,.box 0 0),(36,.p (.bool false))] rfl (by omega) (by omega)
    refine⟨out,env,ho,?_⟩
    rw[←e]
    refine loopK_norm ?_
    rw[he0]
    simp[fc44_b0,evKC,evK,evGuard,put,Env.get,Env.keep,Opd.ev,D.asInt?,binD,strBin,clsP,cls,clsR,isCl,isW,apartRW,offB,apartWW,clash,insOk,List.map,ldr0,ldr1,lenr,hlt,hi,l1,hw,str1',g1,g2]
  ·rw[if_neg hlt]
   have hlt':¬(a:Int)<(c.ts.length:Int):=by omega
   refine⟨.exit 0,[(0,.box 0 0),(12,.p (.bool false))],.inl rfl,loopK_out (o:=.exit 0) ?_ (by simp)⟩
   rw[he0]
   simp[fc44_b0,evKC,evK,put,Env.get,Env.keep,Opd.ev,binD,clsP,cls,clsR,isCl,isW,apartRW,offB,apartWW,clash,insOk,List.map,ldr0,ldr1,lenr,hlt]
theorem skip_eq{s:List UInt8}(hs:s.length≤20000)(q:Sp)(a:Nat)(ha:a≤(rdS s q).ts.length)(bx:List (List D))(t:List Nat):
    callD (call pg) 44 [.box 0 0] (rH (rdS s q) a 0 bx t)=some (.val .undef,rH (rdS s q) (skipP (rdS s q) ((rdS s q).ts.length+1) a) 0 bx t):=by
 have h:(rdS s q).Sz:=rdX_sz s _ _ _ _ _ hs
 obtain⟨out,env,ho,e⟩:=sk_loop h 0 [tabB,tabU,tabS] (rdS s q).tk ((rdS s q).ts.length+1) a [(0,.box 0 0)] rfl ha (by omega)
 refine callD_rd (args:=[]) (ex:=[]) (et:=[]) h.toOk h.toOk rfl (fun _ _=>rfl) (call_body (fc:=fc44) rfl rfl rfl rfl ?_)
 simp only[rH,List.append_nil]
 rcases ho with rfl |rfl<;>simp[fc44,Env.get,Env.keep,entry,finish,evRes,e]
theorem skipP_le{c:Rd}:∀(n a:Nat),a≤c.ts.length→a≤skipP c n a∧skipP c n a≤c.ts.length
 | 0,a,ha=>⟨Nat.le_refl _,ha⟩
 |n+1,a,ha=>by
  unfold skipP
  split
  ·split
   ·omega
   ·have:=skipP_le (c:=c) n (a+1) (by omega);omega
  ·exact⟨Nat.le_refl _,ha⟩
def Sp.flt(q:Sp)(e:Int)(p:Nat):Sp:={q with f:=q.f++[dg e p]}
theorem rdS_flt(s:List UInt8)(q:Sp)(f:List PD):rdS s {q with f:=f}=(rdS s q).flt f [.tsl 1 81 2 (q.S.map sPD),.tsl 2 70 3 (q.F.map fPD),.tsl 3 41 7 (q.P.map pPD),.tsl 4 44 6 (q.A.map aPD)] [q.S.length,q.F.length,q.P.length,q.A.length]:=by
 simp[rdS,rdX,X5,Rd.flt]
theorem five_lt{t:Nat}(h:t<5):t=0∨t=1∨t=2∨t=3∨t=4:=by omega
theorem ren_rdS(s:List UInt8)(q:Sp)(a o:Nat){m1 m2 m3 n1 n2 n3:Nat}{bi ti:Nat→Option Nat}(h1:bi m1=some n1)(h2:bi m2=some n2)(h3:bi m3=some n3)(h0:∀t,t<5→ti t=some t):D.renL bi ti (rM (rdS s q) a o m1 m2 m3)=some (rM (rdS s q) a o n1 n2 n3):=
 ren_rM h1 h2 h3 ((rdX_ok ..).id bi ti h0) a o
theorem refs_rdS(s:List UInt8)(q:Sp)(a o m1 m2 m3:Nat):D.refsL (rM (rdS s q) a o m1 m2 m3)=[m1,m2,m3]:=refs_rM (c:=rdS s q) (rdX_ok ..) a o m1 m2 m3
theorem toks_rdS(s:List UInt8)(q:Sp)(a o m1 m2 m3:Nat):D.toksL (rM (rdS s q) a o m1 m2 m3)=[0,1,2,3,4]:=by rw[toks_rM];rfl
theorem tk_rdS(s:List UInt8)(q:Sp):(rdS s q).tk=[q.f.length,q.S.length,q.F.length,q.P.length,q.A.length]:=by simp[rdS,rdX]
theorem idx5:∀t,t<5→idx [0,1,2,3,4] t=some t:=fun t h=>by
 rcases five_lt h with rfl |rfl |rfl |rfl |rfl<;>rfl
theorem get5:∀t,t<5→(fun t:Nat=>[0,1,2,3,4][t]?) t=some t:=fun t h=>by
 rcases five_lt h with rfl |rfl |rfl |rfl |rfl<;>rfl
theorem call77D{s:List UInt8}{q q':Sp}{ex:List (List D)}{a o a' o':Nat}(b b':Bool){rv:D}(hrv:rv= .p .nili∨∃e p,rv=faultD e p)
    (h:evDef (call pg) pg.D pg.G iterX 77 [rv,.box 0 0,.box 1 0] (H77 (rdS s q) a o b [])=some (.val .undef,H77 (rdS s q') a' o' b' ex)):
    callD (evDef (call pg) pg.D pg.G iterX) 77 [rv,.box 4 0,.box 5 0] (rH (rdS s q) a o [[.box 0 0],[.p (.bool b)]] [])=some (.val .undef,rH (rdS s q') a' o' [[.box 0 0],[.p (.bool b')]] []):=by
 have e0:∀(q:Sp) (a o:Nat) (b:Bool),rH (rdS s q) a o [[.box 0 0],[.p (.bool b)]] []=⟨[rM (rdS s q) a o 1 2 3,tabB,tabU,tabS,[.box 0 0],[.p (.bool b)]],(rdS s q).tk⟩:=fun q a o b=>by simp[rH,rM_rC]
 rw[e0,e0]
 have q0:ins [] (D.refsL [rv,.box 4 0,.box 5 0])=[4,5]:=by rcases hrv with rfl |⟨e,p,rfl⟩<;>rfl
 have q1:reach ⟨[rM (rdS s q) a o 1 2 3,tabB,tabU,tabS,[.box 0 0],[.p (.bool b)]],(rdS s q).tk⟩ 6 (ins [] (D.refsL [rv,.box 4 0,.box 5 0]))=[4,5,0,1,2,3]:=by
  rw[q0]
  simp[reach,boxRefs,ins,refs_rdS,refsB,refsU,refsS,D.refsL,D.refs]
 have q5:mapO (fun i=>match[rM (rdS s q) a o 1 2 3,tabB,tabU,tabS,[.box 0 0],[.p (.bool b)]][i]? with |some cs=>D.renL (idx [4,5,0,1,2,3]) (idx [0,1,2,3,4]) cs |none=>none) [4,5,0,1,2,3]=some (H77 (rdS s q) a o b []).bx:=by
  have k1:=ren_rdS s q a o (m1:=1) (m2:=2) (m3:=3) (n1:=3) (n2:=4) (n3:=5) (bi:=idx [4,5,0,1,2,3]) (ti:=idx [0,1,2,3,4]) rfl rfl rfl idx5
  have k0:idx [4,5,0,1,2,3] 0=some 2:=rfl
  simp[mapO,H77,renB,renU,renS,k1,D.renL,D.ren,k0]
 refine(callD_of (H:=⟨[rM (rdS s q) a o 1 2 3,tabB,tabU,tabS,[.box 0 0],[.p (.bool b)]],(rdS s q).tk⟩) (as1:=[rv,.box 0 0,.box 1 0]) [4,5,0,1,2,3] [0,1,2,3,4] q1 ?_ rfl ?_ q5 rfl h).trans ?_
 ·rcases hrv with rfl |⟨e,p,rfl⟩<;>simp[boxToks,ins,toks_rdS,toksB,toksU,toksS,D.toksL,D.toks,faultD]
 ·rcases hrv with rfl |⟨e,p,rfl⟩<;>rfl
 ·have k2:=ren_rdS s q' a' o' (m1:=3) (m2:=4) (m3:=5) (n1:=1) (n2:=2) (n3:=3) (bi:=fun i=>[4,5,0,1,2,3][i]?) (ti:=fun t=>[0,1,2,3,4][t]?) rfl rfl rfl get5
  simp[back,firstN,mapO,H77,renB,renU,renS,k2,D.renL,D.ren,Res.ren,putAll,tk_rdS]
theorem tryD{s:List UInt8}(hs:s.length≤20000)(q:Sp)(hq:q.Few)(a:Nat)(ha:a≤(rdS s q).ts.length):match declP (rdS s q) q a with
    | .ok q' a'=>∃ex,call pg 43 [.box 0 0,.fn 42 [.box 0 0] []] (rH (rdS s q) a 0 [] [])=some (.val (.p (.bool true)),rH (rdS s q') a' 0 ex [])
    | .bad e p a'=>∃ex,call pg 43 [.box 0 0,.fn 42 [.box 0 0] []] (rH (rdS s q) a 0 [] [])=some (.val (.p (.bool false)),rH (rdS s (q.flt e p)) a' 0 ex []):=by
 have hd:=decl_eq hs q hq a ha
 cases r:declP (rdS s q) q a with
 |ok q' a'=>
  have c1:=hd.okU r [[.box 0 0],[.p (.bool false)]]
  have c2:=call77D (s:=s) (q:=q') true true (.inl rfl) (d77_ok (rdS s q') a' 0 true)
  simp only[rH,List.append_nil,List.map_nil] at c1 c2⊢
  refine⟨[[.box 0 0],[.p (.bool true)]],call_dfr (fc:=fc43) rfl rfl rfl rfl ?_⟩
  simp[fc43,runF,evSeqL,endDfr,evOps,evKC,evK,evGuard,put,Env.get,Env.keep,entry,Opd.ev,finish,evRes,evRes1,D.cells,ld_succ,st_succ,c1,c2,st_one (oB _),ld_one]
 |bad e p a'=>
  obtain⟨o',c1⟩:=hd.badU r
  have c1:=c1 [[.box 0 0],[.p (.bool false)]]
  have hb:=d77_bad (rdS s q) q.f [.tsl 1 81 2 (q.S.map sPD),.tsl 2 70 3 (q.F.map fPD),.tsl 3 41 7 (q.P.map pPD),.tsl 4 44 6 (q.A.map aPD)] [q.S.length,q.F.length,q.P.length,q.A.length] hq.f a' o' false e p
  rw[←rdS_flt s q (q.f++[dg e p]),←rdS_flt s q q.f] at hb
  have c2:=call77D (s:=s) (q:=q) (q':=q.flt e p) false false (.inr ⟨e,p,rfl⟩) hb
  simp only[rH,List.append_nil,List.map_nil] at c1 c2⊢
  refine⟨[[.box 0 0],[.p (.bool false)]],call_dfr (fc:=fc43) rfl rfl rfl rfl ?_⟩
  simp[fc43,runF,evSeqL,endDfr,evOps,evKC,evK,evGuard,put,Env.get,Env.keep,entry,Opd.ev,finish,evRes,evRes1,D.cells,ld_succ,c1,c2,ld_one]
def HP(s:List UInt8)(q:Sp)(a:Nat)(ex:List (List D)):Hp:=⟨[.p .nils,.p .nils,.p .nils,.p .nils]::tabB::tabU::tabS::rM (rdS s q) a 0 1 2 3::ex,(rdS s q).tk⟩
theorem reach4(s:List UInt8)(q:Sp)(a:Nat)(ex:List (List D)):∀n,0<n→reach (HP s q a ex) n [4]=[4,1,2,3]:=by
 have r0:boxRefs (HP s q a ex) [4]=[1,2,3]:=by simp[boxRefs,HP,refs_rdS]
 have r1:boxRefs (HP s q a ex) [4,1,2,3]=[1,2,3]:=by simp[boxRefs,HP,refs_rdS,refsB,refsU,refsS]
 have fx:∀n,reach (HP s q a ex) n [4,1,2,3]=[4,1,2,3]:=fun n=>by
  induction n with
  |zero=>rfl
  |succ n ih=>
   have :ins [4,1,2,3] [1,2,3]=[4,1,2,3]:=rfl
   simp only[reach,r1,this,ih]
 intro n hn
 obtain⟨m,rfl⟩:∃m,n=m+1:=⟨n-1,by omega⟩
 have :ins [4] [1,2,3]=[4,1,2,3]:=rfl
 simp only[reach,r0,this,fx]
theorem call_HP{s:List UInt8}{q q':Sp}{a a':Nat}{ex ex':List (List D)}{g:Nat}{args as1:List D}{d:D}(hd:∀bi ti,d.ren bi ti=some d)
    (h0:ins [] (D.refsL args)=[4]) (h1:D.toksL args=[]) (h4:D.renL (idx [4,1,2,3]) (idx [0,1,2,3,4]) args=some as1)
    (h:call pg g as1 (rH (rdS s q) a 0 [] [])=some (.val d,rH (rdS s q') a' 0 ex' [])):
    callD (call pg) g args (HP s q a ex)=some (.val d,HP s q' a' ex):=by
 have e0:∀(q:Sp) (a:Nat) (ex':List (List D)),rH (rdS s q) a 0 ex' []=⟨rM (rdS s q) a 0 1 2 3::tabB::tabU::tabS::ex',(rdS s q).tk⟩:=fun q a ex'=>by simp[rH,rM_rC]
 rw[e0,e0] at h
 have q1:reach (HP s q a ex) (HP s q a ex).bx.length (ins [] (D.refsL args))=[4,1,2,3]:=by
  rw[h0];exact reach4 s q a ex _ (by simp[HP])
 have q5:mapO (fun i=>match(HP s q a ex).bx[i]? with |some cs=>D.renL (idx [4,1,2,3]) (idx [0,1,2,3,4]) cs |none=>none) [4,1,2,3]=some [rM (rdS s q) a 0 1 2 3,tabB,tabU,tabS]:=by
  have k1:=ren_rdS s q a 0 (m1:=1) (m2:=2) (m3:=3) (n1:=1) (n2:=2) (n3:=3) (bi:=idx [4,1,2,3]) (ti:=idx [0,1,2,3,4]) rfl rfl rfl idx5
  simp[mapO,HP,renB,renU,renS,k1]
 refine(callD_of [4,1,2,3] [0,1,2,3,4] q1 ?_ rfl h4 q5 rfl h).trans ?_
 ·simp[h1,boxToks,ins,HP,toks_rdS,toksB,toksU,toksS]
 ·have k2:=ren_rdS s q' a' 0 (m1:=1) (m2:=2) (m3:=3) (n1:=1) (n2:=2) (n3:=3) (bi:=fun i=>[4,1,2,3][i]?) (ti:=fun t=>[0,1,2,3,4][t]?) rfl rfl rfl get5
  simp[back,firstN,mapO,HP,renB,renU,renS,k2,Res.ren,hd,putAll,tk_rdS]
theorem bind_badI{α β:Type}{x:PR α}{f:α→Nat→PR β}{e:Int}{p a:Nat}(h:x.bind f= .bad e p a):x= .bad e p a∨∃v b,x= .ok v b∧f v b= .bad e p a:=by
 cases x with
 |ok v b=>exact .inr ⟨v,b,rfl,h⟩
 |bad e' p' b=>cases h;exact .inl rfl
structure Bo (c:Rd) (a:Nat) (e:Int) (p a':Nat):Prop where
 le:a≤a'
 len:a'≤c.ts.length
 e0:e≠0
 p:p≤c.e
theorem Bo.mono{c:Rd}{a b:Nat}{e:Int}{p a':Nat}(h:Bo c b e p a')(q:a≤b):Bo c a e p a':=⟨by have:=h.le;omega,h.len,h.e0,h.p⟩
def Po(c:Rd):Prop:=∀i,(c.tok i).p≤c.e
def BoP(c:Rd)(prs:Nat→Nat→PR Nd):Prop:=∀lev a e p a',a≤c.ts.length→prs lev a= .bad e p a'→Bo c a e p a'
section
variable {c : Rd} (hP : Po c)
include hP
theorem wrong_bo{α:Type}{a:Nat}(ha:a≤c.ts.length){e:Int}{p a':Nat}(h:(wrongP c a:PR α)= .bad e p a'):Bo c a e p a':=by
 unfold wrongP at h
 cases h
 exact⟨Nat.le_refl _,ha,by split<;>decide,hP a⟩
theorem expect_bo{a:Nat}(ha:a≤c.ts.length){s:List UInt8}{e:Int}{p a':Nat}(h:expectP c a s= .bad e p a'):Bo c a e p a':=by
 unfold expectP at h
 cases hb:acceptB c a s with
 |true=>rw[hb] at h;cases h
 |false=>rw[hb] at h;exact wrong_bo hP ha h
theorem name_bo{a:Nat}(ha:a≤c.ts.length){e:Int}{p a':Nat}(h:nameP c a= .bad e p a'):Bo c a e p a':=by
 unfold nameP at h
 cases hb:namedB (c.tok a) with
 |true=>rw[hb] at h;cases h
 |false=>rw[hb] at h;exact wrong_bo hP ha h
omit hP in
theorem node_bo{a:Nat}(ha:a≤c.ts.length){n:Nd}{q:Nat}(hq:q≤c.e){e:Int}{p a':Nat}(h:nodeP n q a= .bad e p a'):Bo c a e p a':=by
 unfold nodeP at h
 cases hb:fitsB n.op n.ks with
 |true=>rw[hb] at h;cases h
 |false=>rw[hb] at h;cases h;exact⟨Nat.le_refl _,ha,by decide,hq⟩
theorem number_bo{most a:Nat}(ha:a≤c.ts.length){e:Int}{p a':Nat}(h:numberP c most a= .bad e p a'):Bo c a e p a':=by
 unfold numberP at h
 split at h
 ·split at h
  ·cases h;exact⟨Nat.le_refl _,ha,by decide,hP a⟩
  ·cases h
 ·exact wrong_bo hP ha h
variable {o : Nat} {prs : Nat → Nat → PR Nd} (hp : PrsOk c o prs) (hB : BoP c prs)
include hp hB
theorem quant_bo{op:Int}{q a:Nat}(ha:a≤c.ts.length)(hq:q≤c.e){e:Int}{p a':Nat}(h:quantP c prs op q a= .bad e p a'):Bo c a e p a':=by
 unfold quantP at h
 rcases bind_badI h with h |⟨t,b,h1,h⟩
 ·exact name_bo hP ha h
 obtain⟨w1,w2,_⟩:=name_lt h1
 rcases bind_badI h with h |⟨u,b2,h2,h⟩
 ·exact(expect_bo hP (by omega) h).mono (by omega)
 obtain⟨w3,w4⟩:=expect_lt h2
 rcases bind_badI h with h |⟨x,b3,h3,h⟩
 ·exact(hB _ _ _ _ _ (by omega) h).mono (by omega)
 have w5:=hp.adv _ _ _ _ (by omega) h3
 have w6:=hp.bd _ _ (by omega) _ _ h3
 rcases bind_badI h with h |⟨u4,b4,h4,h⟩
 ·exact(expect_bo hP w6 h).mono (by omega)
 obtain⟨w7,w8⟩:=expect_lt h4
 rcases bind_badI h with h |⟨y,b5,h5,h⟩
 ·exact(hB _ _ _ _ _ (by omega) h).mono (by omega)
 have w9:=hp.adv _ _ _ _ (by omega) h5
 have w10:=hp.bd _ _ (by omega) _ _ h5
 exact(node_bo w10 hq h).mono (by omega)
theorem argsL_bo:∀(n a:Nat) (ks:List Nd) (e:Int) (p a':Nat),a≤c.ts.length→argsL c prs n ks a= .bad e p a'→Bo c a e p a'
 | 0,a,ks,e,p,a',ha,h=>by cases h
 |n+1,a,ks,e,p,a',ha,h=>by
  unfold argsL at h
  split at h
  ·cases h
  ·rcases bind_badI h with h |⟨u,b,h1,h⟩
   ·unfold sepP at h
    split at h
    ·cases h
    ·exact expect_bo hP ha h
   have w1:=sep_bd h1 ha
   have w2:a≤b:=by
    rcases sep_ok h1 ha with⟨_,q⟩ |⟨_,q⟩
    ·omega
    ·have:=(expect_lt q).1;omega
   rcases bind_badI h with h |⟨x,b2,h2,h⟩
   ·exact(hB _ _ _ _ _ w1 h).mono w2
   have w3:=hp.adv _ _ _ _ w1 h2
   have w4:=hp.bd _ _ w1 _ _ h2
   exact(argsL_bo n b2 _ e p a' w4 h).mono (by omega)
theorem primary_bo{a:Nat}(ha:a≤c.ts.length){e:Int}{p a':Nat}(h:primaryP c prs (c.tok a) a= .bad e p a'):Bo c a e p a':=by
 have lt_of:∀{s:List UInt8},s≠[]→(c.tok a).t=s→a<c.ts.length:=fun {s} hs ht=>by
  rcases Nat.lt_or_ge a c.ts.length with q |q
  ·exact q
  ·rw[tok_out q] at ht;exact absurd ht.symm hs
 unfold primaryP at h
 split at h
 ·cases h
 ·split at h
  ·rcases bind_badI h with h |⟨m,b,h1,h⟩
   ·exact number_bo hP ha h
   ·cases h
  ·split at h
   ·rename_i hm
    have hlt:=lt_of (by simp) hm.1
    rcases bind_badI h with h |⟨m,b,h1,h⟩
    ·exact(number_bo hP hlt h).mono (by omega)
    ·cases h
   ·split at h
    ·rename_i hm
     have hlt:=lt_of (by simp) hm
     exact(wrong_bo hP hlt h).mono (by omega)
    ·split at h
     ·rename_i hac
      have hlt:=accept_lt hac
      unfold noneP at h
      split at h
      ·rename_i hac2
       have hlt2:=accept_lt hac2
       split at h
       ·rcases bind_badI h with h |⟨n,b,h1,h⟩
        ·exact(number_bo hP (by omega) h).mono (by omega)
        obtain⟨w1,rfl⟩:=number_bd h1
        rcases bind_badI h with h |⟨u,b2,h2,h⟩
        ·exact(expect_bo hP (by omega) h).mono (by omega)
        ·cases h
       ·exact(wrong_bo hP (by omega) h).mono (by omega)
      ·cases h
     ·split at h
      ·rename_i hac
       have hlt:=accept_lt hac
       rcases bind_badI h with h |⟨n,b,h1,h⟩
       ·exact(quant_bo hP hp hB (by omega) (hP a) h).mono (by omega)
       have w:=quant_adv hp h1
       rcases bind_badI h with h |⟨u,b2,h2,h⟩
       ·exact(expect_bo hP (by omega) h).mono (by omega)
       ·cases h
      ·split at h
       ·rename_i hac
        have hlt:=accept_lt hac
        rcases bind_badI h with h |⟨n,b,h1,h⟩
        ·exact(hB _ _ _ _ _ (by omega) h).mono (by omega)
        have w1:=hp.adv _ _ _ _ (by omega) h1
        have w2:=hp.bd _ _ (by omega) _ _ h1
        rcases bind_badI h with h |⟨u,b2,h2,h⟩
        ·exact(expect_bo hP (by omega) h).mono (by omega)
        ·cases h
       ·rcases bind_badI h with h |⟨t,b,h1,h⟩
        ·exact name_bo hP ha h
        obtain⟨w1,w2,_⟩:=name_lt h1
        split at h
        ·rename_i hac
         have hlt:=accept_lt hac
         rw[argsP_argsL] at h
         rcases bind_badI h with h |⟨ks,b2,h2,h⟩
         ·exact(argsL_bo hP hp hB _ _ _ _ _ _ (by omega) h).mono (by omega)
         have w3:=argsL_bd hp _ _ _ _ _ (by omega) h2
         exact(node_bo w3.2 (hP a) h).mono (by omega)
        ·cases h
omit hp hB in
theorem primes_bo:∀(m:Nat) (n:Nd) (a:Nat) (e:Int) (p a':Nat),a≤c.ts.length→primesP c m n a= .bad e p a'→Bo c a e p a'
 | 0,n,a,e,p,a',ha,h=>by cases h
 |m+1,n,a,e,p,a',ha,h=>by
  unfold primesP at h
  split at h
  ·rename_i ht
   have hlt:a<c.ts.length:=by
    rcases Nat.lt_or_ge a c.ts.length with q |q
    ·exact q
    ·rw[tok_out q] at ht;simp at ht
   rcases bind_badI h with h |⟨x,b,h1,h⟩
   ·exact(node_bo (by omega) (hP a) h).mono (by omega)
   obtain⟨rfl,rfl,_⟩:=node_inv h1
   exact(primes_bo m _ _ e p a' (by omega) h).mono (by omega)
  ·cases h
theorem operand_bo{a:Nat}(ha:a≤c.ts.length){e:Int}{p a':Nat}(h:operandP c prs a= .bad e p a'):Bo c a e p a':=by
 have key:((primaryP c prs (c.tok a) a).bind fun n a=>primesP c (c.ts.length+1) n a)= .bad e p a'→Bo c a e p a':=by
  intro h
  rcases bind_badI h with h |⟨x,b,h1,h⟩
  ·exact primary_bo hP hp hB ha h
  have w:=primary_bd hp ha h1
  exact(primes_bo hP _ _ _ _ _ _ w.2 h).mono (by omega)
 have lt_of:∀{s:List UInt8},s≠[]→(c.tok a).t=s→a<c.ts.length:=fun {s} hs ht=>by
  rcases Nat.lt_or_ge a c.ts.length with q |q
  ·exact q
  ·rw[tok_out q] at ht;exact absurd ht.symm hs
 unfold operandP at h
 dsimp only at h
 split at h
 ·rename_i ht
  have:=lt_of (by simp) ht.2
  exact(quant_bo hP hp hB (by omega) (hP a) h).mono (by omega)
 ·split at h
  ·rename_i ht
   have:=lt_of (by simp) ht.1
   exact(quant_bo hP hp hB (by omega) (hP a) h).mono (by omega)
  ·split at h
   ·split at h
    ·rename_i hk
     have hlt:a<c.ts.length:=by
      rcases Nat.lt_or_ge a c.ts.length with q |q
      ·exact q
      ·exact absurd (by rw[tok_out q]) hk
     rcases bind_badI h with h |⟨x,b,h1,h⟩
     ·exact(hB _ _ _ _ _ (by omega) h).mono (by omega)
     have w1:=hp.adv _ _ _ _ (by omega) h1
     have w2:=hp.bd _ _ (by omega) _ _ h1
     exact(node_bo w2 (hP a) h).mono (by omega)
    ·exact key h
   ·exact key h
theorem ops_bo{lev:Nat}:∀(m:Nat) (cmp:Bool) (x:Nd) (a:Nat) (e:Int) (p a':Nat),a≤c.ts.length→opsP c prs lev m cmp x a= .bad e p a'→Bo c a e p a'
 | 0,cmp,x,a,e,p,a',ha,h=>by cases h
 |m+1,cmp,x,a,e,p,a',ha,h=>by
  unfold opsP at h
  dsimp only at h
  split at h
  ·cases h
  ·split at h
   ·cases h
   ·rename_i hst
    have hlt:a<c.ts.length:=by
     rcases Nat.lt_or_ge a c.ts.length with q |q
     ·exact q
     ·exact absurd (.inl (by rw[tok_out q])) hst
    rcases bind_badI h with h |⟨y,b,h1,h⟩
    ·exact(hB _ _ _ _ _ (by omega) h).mono (by omega)
    have w1:=hp.adv _ _ _ _ (by omega) h1
    have w2:=hp.bd _ _ (by omega) _ _ h1
    rcases bind_badI h with h |⟨z,b2,h2,h⟩
    ·unfold joinedP at h
     split at h
     ·cases h;exact⟨by omega,w2,by decide,hP a⟩
     ·rcases bind_badI h with h |⟨z,b3,h3,h⟩
      ·exact(node_bo w2 (hP a) h).mono (by omega)
      ·cases h
    have w3:=(joined_sz h2).2
    exact(ops_bo m _ _ _ e p a' (by omega) h).mono (by omega)
end
theorem parse_bo{c:Rd}(h:c.Sz)(hP:Po c):∀d,d≤100→BoP c (parseP c (d+1))
 | 0,_=>fun lev a e p a' ha h'=>by
  rw[parseP_one h] at h'
  split at h'
  ·cases h';exact⟨Nat.le_refl _,ha,by decide,hP a⟩
  ·exact wrong_bo hP ha h'
 |d+1,hd=>fun lev a e p a' ha h'=>by
  have hp:=prs_ok h d (by omega)
  have hB:=parse_bo h hP d (by omega)
  rw[parseP_succ] at h'
  rcases bind_badI h' with h' |⟨x,b,h1,h'⟩
  ·exact operand_bo hP hp hB ha h'
  have w:=operand_bd hp ha h1
  exact(ops_bo hP hp hB _ _ _ _ _ _ _ w.2 h').mono (by omega)
theorem whole_bo{c:Rd}(h:c.Sz)(hP:Po c){a:Nat}(ha:a≤c.ts.length){e:Int}{p a':Nat}(hw:wholeP c a= .bad e p a'):Bo c a e p a':=by
 have hp:=prs_ok h 100 (by omega)
 unfold wholeP at hw
 rcases bind_badI hw with hw |⟨x,b,h1,hw⟩
 ·exact parse_bo h hP 100 (by omega) _ _ _ _ _ ha hw
 have w1:=hp.adv _ _ _ _ ha h1
 have w2:=hp.bd _ _ ha _ _ h1
 split at hw
 ·cases hw;exact⟨by omega,w2,by decide,hP a⟩
 ·split at hw
  ·cases hw;exact⟨by omega,w2,by decide,hP a⟩
  ·cases hw
theorem block_bo{c:Rd}(h:c.Sz)(hP:Po c){a:Nat}(ha:a≤c.ts.length){e:Int}{p a':Nat}(hw:blockP c a= .bad e p a'):Bo c a e p a':=by
 unfold blockP at hw
 rcases bind_badI hw with hw |⟨u,b,h1,hw⟩
 ·exact expect_bo hP ha hw
 obtain⟨w1,w2⟩:=expect_lt h1
 rcases bind_badI hw with hw |⟨n,b2,h2,hw⟩
 ·exact(whole_bo h hP (by omega) hw).mono (by omega)
 obtain⟨w3,w4,_⟩:=whole_lt h (by omega) h2
 rcases bind_badI hw with hw |⟨u3,b3,h3,hw⟩
 ·exact(expect_bo hP (by omega) hw).mono (by omega)
 ·cases hw
section
variable {c : Rd} (h : c.Sz) (hP : Po c)
include hP
theorem sort_bo{S:List (List UInt8×Bool)}{a:Nat}(ha:a≤c.ts.length){e:Int}{p a':Nat}(hw:sortP c S a= .bad e p a'):Bo c a e p a':=by
 unfold sortP at hw
 split at hw
 ·split at hw
  ·cases hw
  ·cases hw;exact⟨Nat.le_refl _,ha,by decide,hP a⟩
 ·exact wrong_bo hP ha hw
theorem sorts_bo{S:List (List UInt8×Bool)}:∀(n:Nat) (l:List Nat) (a:Nat) (e:Int) (p a':Nat),a≤c.ts.length→sortsP c S n l a= .bad e p a'→Bo c a e p a'
 | 0,l,a,e,p,a',ha,h=>by cases h
 |n+1,l,a,e,p,a',ha,h=>by
  unfold sortsP at h
  split at h
  ·rename_i hac
   have hlt:=accept_lt hac
   rcases bind_badI h with h |⟨i,b,h1,h⟩
   ·exact(sort_bo hP (by omega) h).mono (by omega)
   obtain⟨w1,w2,_⟩:=sort_lt h1
   exact(sorts_bo n _ _ e p a' (by omega) h).mono (by omega)
  ·cases h
omit hP in
theorem sorts_le{S:List (List UInt8×Bool)}:∀(n:Nat) (l:List Nat) (a:Nat) (l':List Nat) (a':Nat),a≤c.ts.length→sortsP c S n l a= .ok l' a'→a≤a'∧a'≤c.ts.length∧l'.length≤l.length+n
 | 0,l,a,l',a',ha,h=>by cases h;omega
 |n+1,l,a,l',a',ha,h=>by
  unfold sortsP at h
  split at h
  ·obtain⟨i,b,h1,h⟩:=bind_inv h
   obtain⟨w1,w2,_⟩:=sort_lt h1
   have:=sorts_le n _ _ l' a' (by omega) h
   simp only[List.length_append,List.length_cons,List.length_nil] at this
   omega
  ·cases h;omega
theorem params_bo{S:List (List UInt8×Bool)}:∀(n:Nat) (l:List (List UInt8×Nat)) (a:Nat) (e:Int) (p a':Nat),a≤c.ts.length→paramsP c S n l a= .bad e p a'→Bo c a e p a'
 | 0,l,a,e,p,a',ha,h=>by cases h
 |n+1,l,a,e,p,a',ha,h=>by
  unfold paramsP at h
  split at h
  ·cases h
  ·rcases bind_badI h with h |⟨u,b,h1,h⟩
   ·unfold sepM at h
    split at h
    ·cases h
    ·exact expect_bo hP ha h
   obtain⟨w1,w2⟩:=sepM_le h1 ha
   rcases bind_badI h with h |⟨t,b2,h2,h⟩
   ·exact(name_bo hP w2 h).mono w1
   obtain⟨w3,w4,_⟩:=name_lt h2
   rcases bind_badI h with h |⟨u3,b3,h3,h⟩
   ·exact(expect_bo hP (by omega) h).mono (by omega)
   obtain⟨w5,w6⟩:=expect_lt h3
   rcases bind_badI h with h |⟨i,b4,h4,h⟩
   ·exact(sort_bo hP (by omega) h).mono (by omega)
   obtain⟨w7,w8,_⟩:=sort_lt h4
   exact(params_bo n _ _ e p a' (by omega) h).mono (by omega)
omit hP in
theorem params_le{S:List (List UInt8×Bool)}:∀(n:Nat) (l:List (List UInt8×Nat)) (a:Nat) (l':List (List UInt8×Nat)) (a':Nat),a≤c.ts.length→paramsP c S n l a= .ok l' a'→a≤a'∧a'≤c.ts.length
 | 0,l,a,l',a',ha,h=>by cases h;omega
 |n+1,l,a,l',a',ha,h=>by
  unfold paramsP at h
  split at h
  ·rename_i hac
   have:=accept_lt hac
   cases h;omega
  ·obtain⟨u,b,h1,h⟩:=bind_inv h
   obtain⟨w1,w2⟩:=sepM_le h1 ha
   obtain⟨t,b2,h2,h⟩:=bind_inv h
   obtain⟨w3,w4,_⟩:=name_lt h2
   obtain⟨u3,b3,h3,h⟩:=bind_inv h
   obtain⟨w5,w6⟩:=expect_lt h3
   obtain⟨i,b4,h4,h⟩:=bind_inv h
   obtain⟨w7,w8,_⟩:=sort_lt h4
   have:=params_le n _ _ l' a' (by omega) h
   omega
omit hP in
theorem acN_le(a:Nat)(s:List UInt8)(ha:a≤c.ts.length):a≤acN c a s∧acN c a s≤c.ts.length:=by
 unfold acN
 split
 ·rename_i hac
  have:=accept_lt hac
  omega
 ·exact⟨Nat.le_refl _,ha⟩
include h
theorem decl_bo{q:Sp}{a:Nat}(ha:a<c.ts.length){e:Int}{p a':Nat}(hw:declP c q a= .bad e p a'):Bo c a e p a':=by
 unfold declP at hw
 split at hw
 ·unfold sortDeclP at hw
  split at hw
  ·cases hw;exact⟨Nat.le_refl _,by omega,by decide,hP a⟩
  ·rcases bind_badI hw with hw |⟨t,b,h1,hw⟩
   ·exact(name_bo hP (by omega) hw).mono (by omega)
   obtain⟨w1,w2,_⟩:=name_lt h1
   obtain⟨w3,w4⟩:=acN_le (c:=c) b [111,114,100,101,114,101,100] (by omega)
   rcases bind_badI hw with hw |⟨u,b2,h2,hw⟩
   ·exact(expect_bo hP w4 hw).mono (by omega)
   ·cases hw
 ·split at hw
  ·unfold fieldDeclP at hw
   split at hw
   ·cases hw;exact⟨Nat.le_refl _,by omega,by decide,hP a⟩
   ·obtain⟨w1,w2⟩:=acN_le (c:=c) a [118,97,114] (by omega)
    rcases bind_badI hw with hw |⟨u,b,h1,hw⟩
    ·exact(expect_bo hP w2 hw).mono w1
    obtain⟨w3,w4⟩:=expect_lt h1
    rcases bind_badI hw with hw |⟨t,b2,h2,hw⟩
    ·exact(name_bo hP (by omega) hw).mono (by omega)
    obtain⟨w5,w6,_⟩:=name_lt h2
    rcases bind_badI hw with hw |⟨u3,b3,h3,hw⟩
    ·exact(expect_bo hP (by omega) hw).mono (by omega)
    obtain⟨w7,w8⟩:=expect_lt h3
    rcases bind_badI hw with hw |⟨i,b4,h4,hw⟩
    ·exact(sort_bo hP (by omega) hw).mono (by omega)
    obtain⟨w9,w10,_⟩:=sort_lt h4
    rcases bind_badI hw with hw |⟨l,b5,h5,hw⟩
    ·exact(sorts_bo hP _ _ _ _ _ _ (by omega) hw).mono (by omega)
    obtain⟨w11,w12,_⟩:=sorts_le _ _ _ _ _ (by omega) h5
    rcases bind_badI hw with hw |⟨u6,b6,h6,hw⟩
    ·exact(expect_bo hP w12 hw).mono (by omega)
    ·cases hw
  ·split at hw
   ·unfold predDeclP at hw
    split at hw
    ·cases hw;exact⟨Nat.le_refl _,by omega,by decide,hP a⟩
    ·rcases bind_badI hw with hw |⟨t,b,h1,hw⟩
     ·exact(name_bo hP (by omega) hw).mono (by omega)
     obtain⟨w1,w2,_⟩:=name_lt h1
     rcases bind_badI hw with hw |⟨u,b2,h2,hw⟩
     ·exact(expect_bo hP (by omega) hw).mono (by omega)
     obtain⟨w3,w4⟩:=expect_lt h2
     rcases bind_badI hw with hw |⟨l,b3,h3,hw⟩
     ·exact(params_bo hP _ _ _ _ _ _ (by omega) hw).mono (by omega)
     obtain⟨w5,w6⟩:=params_le _ _ _ _ _ (by omega) h3
     rcases bind_badI hw with hw |⟨n,b4,h4,hw⟩
     ·exact(block_bo h hP w6 hw).mono (by omega)
     ·cases hw
   ·split at hw
    ·unfold factDeclP at hw
     split at hw
     ·cases hw;exact⟨Nat.le_refl _,by omega,by decide,hP a⟩
     ·rcases bind_badI hw with hw |⟨t,b,h1,hw⟩
      ·exact(name_bo hP (by omega) hw).mono (by omega)
      obtain⟨w1,w2,_⟩:=name_lt h1
      rcases bind_badI hw with hw |⟨n,b2,h2,hw⟩
      ·exact(block_bo h hP (by omega) hw).mono (by omega)
      ·cases hw
    ·exact wrong_bo hP (by omega) hw
omit hP in
theorem decl_lt{q:Sp}{a:Nat}(ha:a<c.ts.length){q':Sp}{a':Nat}(hw:declP c q a= .ok q' a'):a<a'∧a'≤c.ts.length:=by
 unfold declP at hw
 split at hw
 ·unfold sortDeclP at hw
  split at hw
  ·cases hw
  ·obtain⟨t,b,h1,hw⟩:=bind_inv hw
   obtain⟨w1,w2,_⟩:=name_lt h1
   obtain⟨w3,w4⟩:=acN_le (c:=c) b [111,114,100,101,114,101,100] (by omega)
   obtain⟨u,b2,h2,hw⟩:=bind_inv hw
   obtain⟨w5,w6⟩:=expect_lt h2
   cases hw;omega
 ·split at hw
  ·unfold fieldDeclP at hw
   split at hw
   ·cases hw
   ·obtain⟨w1,w2⟩:=acN_le (c:=c) a [118,97,114] (by omega)
    obtain⟨u,b,h1,hw⟩:=bind_inv hw
    obtain⟨w3,w4⟩:=expect_lt h1
    obtain⟨t,b2,h2,hw⟩:=bind_inv hw
    obtain⟨w5,w6,_⟩:=name_lt h2
    obtain⟨u3,b3,h3,hw⟩:=bind_inv hw
    obtain⟨w7,w8⟩:=expect_lt h3
    obtain⟨i,b4,h4,hw⟩:=bind_inv hw
    obtain⟨w9,w10,_⟩:=sort_lt h4
    obtain⟨l,b5,h5,hw⟩:=bind_inv hw
    obtain⟨w11,w12,_⟩:=sorts_le _ _ _ _ _ (by omega) h5
    obtain⟨u6,b6,h6,hw⟩:=bind_inv hw
    obtain⟨w13,w14⟩:=expect_lt h6
    cases hw;omega
  ·split at hw
   ·unfold predDeclP at hw
    split at hw
    ·cases hw
    ·obtain⟨t,b,h1,hw⟩:=bind_inv hw
     obtain⟨w1,w2,_⟩:=name_lt h1
     obtain⟨u,b2,h2,hw⟩:=bind_inv hw
     obtain⟨w3,w4⟩:=expect_lt h2
     obtain⟨l,b3,h3,hw⟩:=bind_inv hw
     obtain⟨w5,w6⟩:=params_le _ _ _ _ _ (by omega) h3
     obtain⟨n,b4,h4,hw⟩:=bind_inv hw
     obtain⟨w7,w8,_⟩:=block_lt h h4
     cases hw;omega
   ·split at hw
    ·unfold factDeclP at hw
     split at hw
     ·cases hw
     ·obtain⟨t,b,h1,hw⟩:=bind_inv hw
      obtain⟨w1,w2,_⟩:=name_lt h1
      obtain⟨n,b2,h2,hw⟩:=bind_inv hw
      obtain⟨w3,w4,_⟩:=block_lt h h2
      cases hw;omega
    ·exact absurd hw wrongP_bad
end
end Go.Proofs.YtalgjkpkkdljaaaGreatDoor
namespace Go.Proofs.YtalgjkpkkdljaaaGreatDoor
open Go.Vs
abbrev KT:=Int×List UInt8
structure BE where
 tok:KT
 lv:Nat
 a:Nat
 b:Nat
 kd:Int
def bopT:List (Int×BE):=[(6,⟨(3,[43]),8,8,9,1⟩),(7,⟨(3,[38]),10,10,11,1⟩),(8,⟨(3,[45]),8,8,9,1⟩),(9,⟨(3,[46]),12,12,13,1⟩),(10,⟨(3,[45,62]),11,11,12,1⟩),(14,⟨(3,[43,43]),9,9,10,1⟩),(22,⟨(3,[43]),8,8,9,2⟩),(23,⟨(3,[45]),8,8,9,2⟩),(32,⟨(1,[105,110]),7,8,8,1⟩),(33,⟨(3,[61]),7,8,8,1⟩),(38,⟨(3,[61]),7,8,8,2⟩),(39,⟨(3,[60]),7,8,8,2⟩),(41,⟨(3,[38,38]),4,4,5,3⟩),(42,⟨(3,[124,124]),3,3,4,3⟩),(43,⟨(3,[61,62]),2,3,2,3⟩),(44,⟨(3,[60,61,62]),1,1,2,3⟩),(51,⟨(1,[117,110,116,105,108]),5,6,5,3⟩)]
structure PE where
 tok:KT
 lv:Nat
 a:Nat
 kd:Int
def popT:List (Int×PE):=[(11,⟨(3,[126]),13,13,1⟩),(12,⟨(3,[94]),13,13,1⟩),(13,⟨(3,[42]),13,13,1⟩),(21,⟨(3,[35]),12,12,1⟩),(34,⟨(1,[115,111,109,101]),7,8,1⟩),(35,⟨(1,[110,111]),7,8,1⟩),(36,⟨(1,[111,110,101]),7,8,1⟩),(37,⟨(1,[108,111,110,101]),7,8,1⟩),(40,⟨(1,[110,111,116]),6,6,3⟩),(48,⟨(1,[97,108,119,97,121,115]),6,6,3⟩),(49,⟨(1,[101,118,101,110,116,117,97,108,108,121]),6,6,3⟩),(50,⟨(1,[97,102,116,101,114]),6,6,3⟩)]
def lookO{α:Type}:List (Int×α)→Int→Option α
 |[],_=>none
 |e::t,k=>if e.1=k then some e.2 else lookO t k
def lvN(op:Int):Nat:=match lookO bopT op with
 |some e=>e.lv
 |none=>match lookO popT op with
  |some e=>e.lv
  |none=>if op=5 then 14 else 15
def rlN(op:Int):Nat:=match lookO bopT op with
 |some e=>e.b
 |none=>match lookO popT op with
  |some e=>e.a
  |none=>15
def ktAt(c:Rd)(i:Nat):KT:=((c.tok i).k,(c.tok i).t)
def At(c:Rd):Nat→List KT→Prop
 |_,[]=>True
 |i,x::l=>ktAt c i=x∧At c (i+1) l
def Stop(lev:Nat)(u:KT):Prop:=u.1=0∨lookT binT u.2=none∨∃b,lookT binT u.2=some b∧b.lv<lev
theorem Stop.mono{s s':Nat}{u:KT}(h:Stop s u)(hs:s≤s'):Stop s' u:=by
 rcases h with h |h |⟨b,h,hb⟩
 ·exact .inl h
 ·exact .inr (.inl h)
 ·exact .inr (.inr ⟨b,h,by omega⟩)
def Good(u:KT):Prop:=u.2≠[39]∧u.2≠[91]∧u.2≠[58]
mutual
def Nd.er:Nd→Nd
 | .mk op nm n _ ks _=>.mk op nm n 0 (Nd.erL ks) 0
def Nd.erL:List Nd→List Nd
 |[]=>[]
 |k::ks=>k.er::Nd.erL ks
end
theorem erL_map:∀ks:List Nd,Nd.erL ks=ks.map Nd.er
 |[]=>rfl
 |k::ks=>by simp[Nd.erL,erL_map ks]
theorem er_eq(a:Nd):a.er= .mk a.op a.nm a.n 0 (a.ks.map Nd.er) 0:=by
 cases a;simp only[Nd.er,erL_map];rfl
theorem er_iff{a b:Nd}:a.er=b.er↔a.op=b.op∧a.nm=b.nm∧a.n=b.n∧a.ks.map Nd.er=b.ks.map Nd.er:=by
 rw[er_eq a,er_eq b,Nd.mk.injEq]
 simp
theorem er_op{a b:Nd}(h:a.er=b.er):a.op=b.op:=(er_iff.1 h).1
theorem fitsL_er:∀{ks ks':List Nd} {w:List UInt8},ks.map Nd.er=ks'.map Nd.er→fitsL ks w=fitsL ks' w
 |[],[],w,_=>by cases w<;>rfl
 |k::ks,k'::ks',w,h=>by
  simp only[List.map_cons,List.cons.injEq] at h
  cases w with
  |nil=>rfl
  |cons c w=>simp only[fitsL,er_op h.1,fitsL_er h.2]
 |[],_::_,_,h=>by simp at h
 |_::_,[],_,h=>by simp at h
theorem fits_er{op:Int}{ks ks':List Nd}(h:ks.map Nd.er=ks'.map Nd.er):fitsB op ks=fitsB op ks':=by
 have hl:ks.length=ks'.length:=by have:=congrArg List.length h;simpa using this
 unfold fitsB
 rw[hl]
 cases wantS op ks'.length with
 |none=>rfl
 |some w=>dsimp only;rw[fitsL_er h]
def wf:Nat→Nd→Prop
 | 0,_=>False
 |h+1,a=>ownN a=true∧fitsB a.op a.ks=true∧∀x∈a.ks,wf h x
def lpT:KT:=(3,[40])
def rpT:KT:=(3,[41])
def OpR(P:Bool→List KT→Prop)(op:Int)(need:Nat)(fin:Bool)(l:List KT):Prop:=
 (need≤lvN op∧(fin=true∨(op≠45∧op≠46))∧P fin l)∨∃m,l=lpT::(m++[rpT])∧P true m
def commas:List (List KT)→List KT
 |[]=>[]
 |[x]=>x
 |x::y::r=>x++(3,[44])::commas (y::r)
def bndR(K:Nd→Bool→List KT→Prop)(a:Nd)(l:List KT):Prop:=
 ∃x y lx ly,a.ks=[x,y]∧OpR (K x) x.op 8 true lx∧OpR (K y) y.op 1 true ly∧l=(1,a.nm)::(3,[58])::(lx++(3,[124])::ly)
def constW(op:Int):Option (List UInt8):=if op=3 then some [117,110,105,118] else if op=4 then some [105,100,101,110] else if op=30 then some [116,114,117,101] else if op=31 then some [102,97,108,115,101] else none
def PtB(K:Nd→Bool→List KT→Prop)(a:Nd)(fin:Bool)(l:List KT):Prop:=
 match lookO bopT a.op with
 |some e=>∃x y lx ly,a.ks=[x,y]∧OpR (K x) x.op e.a false lx∧OpR (K y) y.op e.b fin ly∧l=lx++e.tok::ly
 |none=>match lookO popT a.op with
  |some e=>∃x lx,a.ks=[x]∧OpR (K x) x.op e.a fin lx∧l=e.tok::lx
  |none=>
   (a.op=1∧a.ks=[]∧l=[(1,a.nm)])∨
   (a.op=2∧a.ks=[]∧((a.n=1∧l=[(1,[110,111,110,101])])∨l=[(1,[110,111,110,101]),(3,[91]),(2,Lib.itoa a.n),(3,[93])]))∨
   (a.op=20∧a.ks=[]∧((0≤a.n∧l=[(2,Lib.itoa a.n)])∨(a.n<0∧l=[(3,[45]),(2,Lib.itoa (-a.n))])))∨
   (a.op=5∧∃x lx,a.ks=[x]∧OpR (K x) x.op 14 false lx∧l=lx++[(3,[39])])∨
   (a.op=45∧∃m,bndR K a m∧l=(1,[97,108,108])::m)∨
   (a.op=46∧∃m,bndR K a m∧l=(1,[115,111,109,101])::m)∨
   (a.op=15∧∃m,bndR K a m∧l=(3,[123])::(m++[(3,[125])]))∨
   (a.op=47∧∃ls:List (List KT),ls.length=a.ks.length∧(∀(i:Nat) x m,a.ks[i]? =some x→ls[i]? =some m→OpR (K x) x.op 8 true m)∧l=(1,a.nm)::(3,[91])::(commas ls++[(3,[93])]))∨
   (∃w,constW a.op=some w∧a.ks=[]∧l=[(1,w)])
def Pt:Nat→Nd→Bool→List KT→Prop
 | 0=>fun _ _ _=>False
 |h+1=>PtB (Pt h)
theorem k1(s:List UInt8):((1,s):KT).1≠0:=(by decide:(1 :Int)≠0)
theorem k2(s:List UInt8):((2,s):KT).1≠0:=(by decide:(2 :Int)≠0)
theorem k3(s:List UInt8):((3,s):KT).1≠0:=(by decide:(3 :Int)≠0)
structure Same2 where
 c:Rd
 c':Rd
 δ:Nat
 b:Nat
 I:Nat→Prop
 dn:∀i j,I i→j≤i→I j
 kt:∀i,b≤i→I i→ktAt c i=ktAt c' (i+δ)
namespace Same2
def Pos(M:Same2)(p p':Nat):Prop:=∃j,M.b≤j∧p=(M.c.tok j).p∧p'=(M.c'.tok (j+M.δ)).p
def Sm{α:Type}(M:Same2)(E:α→α→Prop)(r r':PR α):Prop:=match r with
 | .ok x a=>M.I a→∃x',r'= .ok x' (a+M.δ)∧E x x'
 | .bad e p a=>(∀i,M.I i)→∃p',r'= .bad e p' (a+M.δ)∧M.Pos p p'
variable {M : Same2} {α β : Type} {E : α → α → Prop} {E2 : β → β → Prop}
theorem of_in{a:Nat}{r r':PR α}(hm:∀y a',r= .ok y a'→a≤a')(h:M.I a→M.Sm E r r'):M.Sm E r r':=by
 cases r with
 |ok x a'=>exact fun hi=>h (M.dn _ _ hi (hm x a' rfl)) hi
 |bad e p a'=>exact fun hi=>h (hi a) hi
theorem bind{x x':PR α}{f f':α→Nat→PR β}(h:M.Sm E x x')(hm:∀v b y a',x= .ok v b→f v b= .ok y a'→b≤a')
    (hf:∀v b v',x= .ok v b→M.I b→E v v'→M.Sm E2 (f v b) (f' v' (b+M.δ))):M.Sm E2 (x.bind f) (x'.bind f'):=by
 cases x with
 |bad e p a=>
  intro hi
  obtain⟨p',h1,h2⟩:=h hi
  rw[h1]
  exact⟨p',rfl,h2⟩
 |ok v b=>
  show M.Sm E2 (f v b) _
  cases hv:f v b with
  |ok y a'=>
   intro hi
   have hb:=M.dn _ _ hi (hm v b y a' rfl hv)
   obtain⟨v',h1,h2⟩:=h hb
   have h3:=hf v b v' rfl hb h2
   rw[hv] at h3
   obtain⟨y',h4,h5⟩:=h3 hi
   rw[h1]
   exact⟨y',h4,h5⟩
  |bad e p a'=>
   intro hi
   obtain⟨v',h1,h2⟩:=h (hi b)
   have h3:=hf v b v' rfl (hi b) h2
   rw[hv] at h3
   obtain⟨y',h4,h5⟩:=h3 hi
   rw[h1]
   exact⟨y',h4,h5⟩
theorem ok_{x x':α}{a a2:Nat}(h:E x x')(e:a2=a+M.δ):M.Sm E (.ok x a) (.ok x' a2):=fun _=>⟨x',by rw[e],h⟩
theorem bad_{e:Int}{p p' a a2:Nat}(h:M.Pos p p')(q:a2=a+M.δ):M.Sm E (.bad e p a:PR α) (.bad e p' a2):=fun _=>⟨p',by rw[q],h⟩
theorem tk{i:Nat}(hb:M.b≤i)(hi:M.I i):(M.c.tok i).k=(M.c'.tok (i+M.δ)).k∧(M.c.tok i).t=(M.c'.tok (i+M.δ)).t:=by
 have:=M.kt i hb hi
 simp only[ktAt,Prod.mk.injEq] at this
 exact this
theorem pos{i:Nat}(hb:M.b≤i):M.Pos (M.c.tok i).p (M.c'.tok (i+M.δ)).p:=⟨i,hb,rfl,rfl⟩
theorem acc{i:Nat}(hb:M.b≤i)(hi:M.I i)(s:List UInt8):acceptB M.c i s=acceptB M.c' (i+M.δ) s:=by
 obtain⟨h1,h2⟩:=M.tk hb hi
 unfold acceptB
 rw[h1,h2]
theorem nmd{i:Nat}(hb:M.b≤i)(hi:M.I i):namedB (M.c.tok i)=namedB (M.c'.tok (i+M.δ)):=by
 obtain⟨h1,h2⟩:=M.tk hb hi
 unfold namedB
 rw[h1,h2]
theorem wrong{i:Nat}(hb:M.b≤i):M.Sm E (wrongP M.c i) (wrongP M.c' (i+M.δ)):=by
 intro hi
 obtain⟨h1,h2⟩:=M.tk hb (hi i)
 unfold wrongP
 rw[h1]
 exact⟨_,rfl,M.pos hb⟩
def ET(_x _x':Unit):Prop:=True
theorem expect{i:Nat}(hb:M.b≤i)(s:List UInt8):M.Sm ET (expectP M.c i s) (expectP M.c' (i+M.δ) s):=by
 refine of_in (a:=i) (fun y a' h=>by rw[(expect_inv h).1];omega) fun hi=>?_
 have h:=M.acc hb hi s
 unfold expectP
 rw[←h]
 cases acceptB M.c i s with
 |true=>exact ok_ trivial (by omega)
 |false=>exact wrong hb
def EK(M:Same2)(x x':Tok):Prop:=x.k=x'.k∧x.t=x'.t∧M.Pos x.p x'.p
theorem ek{i:Nat}(hb:M.b≤i)(hi:M.I i):M.EK (M.c.tok i) (M.c'.tok (i+M.δ)):=⟨(M.tk hb hi).1,(M.tk hb hi).2,M.pos hb⟩
theorem name{i:Nat}(hb:M.b≤i):M.Sm (M.EK) (nameP M.c i) (nameP M.c' (i+M.δ)):=by
 refine of_in (a:=i) (fun y a' h=>by rw[(name_inv h).1];omega) fun hi=>?_
 have h:=M.nmd hb hi
 unfold nameP
 rw[←h]
 cases namedB (M.c.tok i) with
 |true=>exact ok_ (M.ek hb hi) (by omega)
 |false=>exact wrong hb
def EN(x x':Nd):Prop:=x.er=x'.er
theorem node{n n':Nd}{p p' a a2:Nat}(h:EN n n')(hp:M.Pos p p')(e:a2=a+M.δ):M.Sm EN (nodeP n p a) (nodeP n' p' a2):=by
 have h4:=er_iff.1 h
 have hf:fitsB n.op n.ks=fitsB n'.op n'.ks:=by rw[h4.1,fits_er h4.2.2.2]
 unfold nodeP
 rw[←hf]
 cases fitsB n.op n.ks with
 |true=>exact ok_ h e
 |false=>exact bad_ hp e
theorem en_kids{op:Int}{nm:List UInt8}{ks ks':List Nd}{p p':Nat}(h:ks.map Nd.er=ks'.map Nd.er):EN (kidsN op nm ks p) (kidsN op nm ks' p'):=er_iff.2 ⟨rfl,rfl,rfl,h⟩
theorem en_leaf(op:Int)(nm:List UInt8)(n:Int)(p p':Nat):EN (leafN op nm n p) (leafN op nm n p'):=er_iff.2 ⟨rfl,rfl,rfl,rfl⟩
theorem en_call{nm:List UInt8}{ks ks':List Nd}{p p':Nat}(h:ks.map Nd.er=ks'.map Nd.er):EN (callN nm ks p) (callN nm ks' p'):=er_iff.2 ⟨rfl,rfl,rfl,h⟩
def EI(x x':Nat):Prop:=x=x'
theorem number{most i:Nat}(hb:M.b≤i):M.Sm EI (numberP M.c most i) (numberP M.c' most (i+M.δ)):=by
 refine of_in (a:=i) (fun y a' h=>by rw[(number_bd h).2];omega) fun hi=>?_
 obtain⟨h1,h2⟩:=M.tk hb hi
 have hn:(M.c.tok i).num=(M.c'.tok (i+M.δ)).num:=by unfold Tok.num;rw[h2]
 unfold numberP
 rw[←h1,←hn]
 split
 ·split
  ·exact bad_ (M.pos hb) rfl
  ·exact ok_ rfl (by omega)
 ·exact wrong hb
theorem none_{p p' i:Nat}(hb:M.b≤i):M.Sm EN (noneP M.c p i) (noneP M.c' p' (i+M.δ)):=by
 have hm:∀y a',noneP M.c p i= .ok y a'→i≤a':=by
  intro y a' h
  unfold noneP at h
  split at h
  ·split at h
   ·obtain⟨n,b,h1,h⟩:=bind_inv h
    obtain⟨u,b2,h2,h⟩:=bind_inv h
    obtain⟨_,rfl⟩:=number_bd h1
    obtain⟨rfl,_⟩:=expect_inv h2
    cases h;omega
   ·exact absurd h wrongP_bad
  ·cases h;exact Nat.le_refl _
 refine of_in hm fun hi=>?_
 unfold noneP
 rw[←M.acc hb hi]
 split
 ·have e1:i+M.δ+1=i+1+M.δ:=by omega
  rw[e1]
  refine of_in (a:=i+1) (fun y a' h=>?_) fun hi1=>?_
  ·split at h
   ·obtain⟨n,b,h1,h⟩:=bind_inv h
    obtain⟨u,b2,h2,h⟩:=bind_inv h
    obtain⟨_,rfl⟩:=number_bd h1
    obtain⟨rfl,_⟩:=expect_inv h2
    cases h;omega
   ·exact absurd h wrongP_bad
  ·obtain⟨h1,h2⟩:=M.tk (show M.b≤i+1 by omega) hi1
   rw[←h1,←h2]
   split
   ·refine bind (number (by omega)) (fun v b y a' h1 h=>?_) fun v b v' h1 hib hv=>?_
    ·obtain⟨u,b2,h2,h⟩:=bind_inv h
     obtain⟨rfl,_⟩:=expect_inv h2
     cases h;omega
    ·obtain⟨_,rfl⟩:=number_bd h1
     refine bind (expect (by omega) _) (fun v b y a' h1 h=>by cases h;exact Nat.le_refl _) fun u b2 u' h2 _ _=>?_
     have hv:v=v':=hv
     subst hv
     exact ok_ (en_leaf ..) rfl
   ·exact wrong (by omega)
 ·exact ok_ (en_leaf ..) rfl
def SmP(M:Same2)(prs prs':Nat→Nat→PR Nd):Prop:=∀lev a,M.b≤a→a≤M.c.ts.length→M.Sm EN (prs lev a) (prs' lev (a+M.δ))
end Same2
end Go.Proofs.YtalgjkpkkdljaaaGreatDoor
namespace Go.Proofs.YtalgjkpkkdljaaaGreatDoor
open Go.Vs
namespace Same2
theorem map_er_two{x y x' y':Nd}(h1:EN x x')(h2:EN y y'):[x,y].map Nd.er=[x',y'].map Nd.er:=by
 have h1:x.er=x'.er:=h1
 have h2:y.er=y'.er:=h2
 simp[h1,h2]
theorem map_er_one{x x':Nd}(h1:EN x x'):[x].map Nd.er=[x'].map Nd.er:=by
 have h1:x.er=x'.er:=h1
 simp[h1]
def EL(x x':List Nd):Prop:=x.map Nd.er=x'.map Nd.er
variable {M : Same2} {o : Nat} {prs prs' : Nat → Nat → PR Nd}
theorem lt2(M:Same2)(hz:M.c.Sz){i:Nat}(hb:M.b≤i)(hi:M.I i)(hl:i<M.c.ts.length):i+M.δ<M.c'.ts.length:=by
 rcases Nat.lt_or_ge (i+M.δ) M.c'.ts.length with q |q
 ·exact q
 ·have:=(M.tk hb hi).1
  rw[tok_out q,tok_in hl] at this
  exact absurd this (hz.k _ (List.getElem_mem hl))
section
variable (hz : M.c.Sz) (hp : PrsOk M.c o prs) (hS : M.SmP prs prs')
include hp hS
theorem quant{op:Int}{p p' i:Nat}(hb:M.b≤i)(_hl:i≤M.c.ts.length)(hq:M.Pos p p'):M.Sm EN (quantP M.c prs op p i) (quantP M.c' prs' op p' (i+M.δ)):=by
 unfold quantP
 refine bind (name hb) (fun t b y a' h1 h=>?_) fun t b t' h1 hib ht=>?_
 ·have:=quant_adv hp (op:=op) (p:=p) (a:=i) (x:=y) (a':=a') (by unfold quantP;rw[h1];exact h)
  obtain⟨w1,w2,_⟩:=name_lt h1
  omega
 obtain⟨w1,w2,_⟩:=name_lt h1
 refine bind (expect (by omega) _) (fun u b2 y a' h2 h=>?_) fun u b2 u' h2 hib2 _=>?_
 ·obtain⟨w3,w4⟩:=expect_lt h2
  obtain⟨x,b3,h3,h⟩:=bind_inv h
  have w5:=hp.adv _ _ _ _ (by omega) h3
  obtain⟨u4,b4,h4,h⟩:=bind_inv h
  obtain⟨w7,w8⟩:=expect_lt h4
  obtain⟨z,b5,h5,h⟩:=bind_inv h
  have w9:=hp.adv _ _ _ _ (by omega) h5
  obtain⟨_,rfl,_⟩:=node_inv h
  omega
 obtain⟨w3,w4⟩:=expect_lt h2
 refine bind (hS 8 b2 (by omega) (by omega)) (fun x b3 y a' h3 h=>?_) fun x b3 x' h3 hib3 hx=>?_
 ·obtain⟨u4,b4,h4,h⟩:=bind_inv h
  obtain⟨w7,w8⟩:=expect_lt h4
  obtain⟨z,b5,h5,h⟩:=bind_inv h
  have w9:=hp.adv _ _ _ _ (by omega) h5
  obtain⟨_,rfl,_⟩:=node_inv h
  omega
 have w5:=hp.adv _ _ _ _ (by omega) h3
 have w6:=hp.bd _ _ (by omega) _ _ h3
 refine bind (expect (by omega) _) (fun u b4 y a' h4 h=>?_) fun u b4 u' h4 hib4 _=>?_
 ·obtain⟨w7,w8⟩:=expect_lt h4
  obtain⟨z,b5,h5,h⟩:=bind_inv h
  have w9:=hp.adv _ _ _ _ (by omega) h5
  obtain⟨_,rfl,_⟩:=node_inv h
  omega
 obtain⟨w7,w8⟩:=expect_lt h4
 refine bind (hS 1 b4 (by omega) (by omega)) (fun z b5 y a' h5 h=>?_) fun z b5 z' h5 hib5 hz=>?_
 ·obtain⟨_,rfl,_⟩:=node_inv h
  exact Nat.le_refl _
 have ht2:t.t=t'.t:=ht.2.1
 rw[←ht2]
 exact node (en_kids (map_er_two hx hz)) hq rfl
include hz in
theorem args:∀(m m':Nat) (ks ks':List Nd) (i:Nat),M.b≤i→i≤M.c.ts.length→M.c.ts.length-i<m→M.c'.ts.length-(i+M.δ)<m'→EL ks ks'→M.Sm EL (argsL M.c prs m ks i) (argsL M.c' prs' m' ks' (i+M.δ))
 | 0,m',ks,ks',i,hb,hl,h1,h2,hk=>by omega
 |m+1,0,ks,ks',i,hb,hl,h1,h2,hk=>by omega
 |m+1,m'+1,ks,ks',i,hb,hl,h1,h2,hk=>by
  have hmono:∀y a',argsL M.c prs (m+1) ks i= .ok y a'→i≤a':=fun y a' h=>(argsL_bd hp _ _ _ _ _ hl h).1
  refine of_in hmono fun hi=>?_
  unfold argsL
  rw[←M.acc hb hi]
  split
  ·exact ok_ hk (by omega)
  ·have hs:M.Sm ET (sepP M.c ks i) (sepP M.c' ks' (i+M.δ)):=by
    have hk0:ks=[]↔ks'=[]:=by
     unfold EL at hk
     constructor<;>intro q<;>rw[q] at hk
     ·cases ks' with
      |nil=>rfl
      |cons=>cases hk
     ·cases ks with
      |nil=>rfl
      |cons=>cases hk
    unfold sepP
    by_cases q:ks=[]
    ·rw[if_pos q,if_pos (hk0.1 q)];exact ok_ trivial rfl
    ·rw[if_neg q,if_neg (fun w=>q (hk0.2 w))];exact expect hb _
   refine bind hs (fun u b y a' h3 h=>?_) fun u b u' h3 hib _=>?_
   ·have w1:=sep_bd h3 hl
    obtain⟨x,b2,h4,h⟩:=bind_inv h
    have w2:=hp.adv _ _ _ _ w1 h4
    have w3:=hp.bd _ _ w1 _ _ h4
    have:=argsL_bd hp _ _ _ _ _ w3 h
    omega
   have w1:=sep_bd h3 hl
   have w0:i≤b:=by
    rcases sep_ok h3 hl with⟨_,q⟩ |⟨_,q⟩
    ·omega
    ·have:=(expect_lt q).1;omega
   refine bind (hS 8 b (by omega) w1) (fun x b2 y a' h4 h=>?_) fun x b2 x' h4 hib2 hx=>?_
   ·have w3:=hp.bd _ _ w1 _ _ h4
    exact(argsL_bd hp _ _ _ _ _ w3 h).1
   have w2:=hp.adv _ _ _ _ w1 h4
   have w3:=hp.bd _ _ w1 _ _ h4
   have hlt:=M.lt2 hz (show M.b≤b by omega) (M.dn _ _ hib2 (by omega)) (by omega)
   exact args m m' _ _ b2 (by omega) w3 (by omega) (by omega) (by
    unfold EL at hk⊢
    have hx:x.er=x'.er:=hx
    simp[hk,hx])
end
end Same2
end Go.Proofs.YtalgjkpkkdljaaaGreatDoor
namespace Go.Proofs.YtalgjkpkkdljaaaGreatDoor
open Go.Vs
namespace Same2
variable {M : Same2} {o : Nat} {prs prs' : Nat → Nat → PR Nd}
section
variable (hz : M.c.Sz) (hp : PrsOk M.c o prs) (hS : M.SmP prs prs') (hl' : ∀ i, M.b ≤ i → M.I i → i ≤ M.c.ts.length → i + M.δ ≤ M.c'.ts.length)
include hz hp hS
theorem primary{i:Nat}(hb:M.b≤i)(_hl:i≤M.c.ts.length)(hi:M.I i):M.Sm EN (primaryP M.c prs (M.c.tok i) i) (primaryP M.c' prs' (M.c'.tok (i+M.δ)) (i+M.δ)):=by
 obtain⟨hk,ht⟩:=M.tk hb hi
 have hq:=M.pos hb
 have e1:i+M.δ+1=i+1+M.δ:=by omega
 have lt_of:∀{s:List UInt8},s≠[]→(M.c.tok i).t=s→i<M.c.ts.length:=fun {s} hs ht=>by
  rcases Nat.lt_or_ge i M.c.ts.length with q |q
  ·exact q
  ·rw[tok_out q] at ht;exact absurd ht.symm hs
 unfold primaryP
 rw[←ht,←hk]
 split
 ·exact ok_ (en_leaf ..) (by omega)
 ·split
  ·refine bind (number hb) (fun v b y a' h1 h=>by cases h;exact Nat.le_refl _) fun v b v' h1 hib hv=>?_
   have hv:v=v':=hv
   subst hv
   exact ok_ (en_leaf ..) rfl
  ·by_cases h45:(M.c.tok i).t=[45]
   ·have hlt:=lt_of (by simp) h45
    rw[e1]
    refine of_in (a:=i+1) (fun y a' h=>?_) fun hi1=>?_
    ·split at h
     ·obtain⟨v,b,h1,h⟩:=bind_inv h
      obtain⟨_,rfl⟩:=number_bd h1
      cases h;omega
     ·exact absurd h wrongP_bad
    ·rw[←(M.tk (show M.b≤i+1 by omega) hi1).1]
     split
     ·refine bind (number (by omega)) (fun v b y a' h1 h=>by cases h;exact Nat.le_refl _) fun v b v' h1 hib hv=>?_
      have hv:v=v':=hv
      subst hv
      exact ok_ (en_leaf ..) rfl
     ·exact wrong (by omega)
   ·have n1:¬((M.c.tok i).t=[45]∧(M.c.tok (i+1)).k=2):=fun q=>h45 q.1
    have n2:¬((M.c.tok i).t=[45]∧(M.c'.tok (i+M.δ+1)).k=2):=fun q=>h45 q.1
    rw[if_neg n1,if_neg n2,if_neg h45,if_neg h45,←M.acc hb hi,←M.acc hb hi,←M.acc hb hi]
    split
    ·rw[e1];exact none_ (by omega)
    ·split
     ·rename_i hac
      have hlt:=accept_lt hac
      rw[e1]
      refine bind (quant hp hS (by omega) (by omega) hq) (fun v b y a' h1 h=>?_) fun v b v' h1 hib hv=>?_
      ·obtain⟨u,b2,h2,h⟩:=bind_inv h
       obtain⟨rfl,_⟩:=expect_inv h2
       cases h;omega
      have w:=quant_adv hp h1
      refine bind (expect (by omega) _) (fun v b y a' h1 h=>by cases h;exact Nat.le_refl _) fun u b2 u' h2 _ _=>?_
      exact ok_ hv rfl
     ·split
      ·rename_i hac
       have hlt:=accept_lt hac
       rw[e1]
       refine bind (hS 1 (i+1) (by omega) (by omega)) (fun v b y a' h1 h=>?_) fun v b v' h1 hib hv=>?_
       ·obtain⟨u,b2,h2,h⟩:=bind_inv h
        obtain⟨rfl,_⟩:=expect_inv h2
        cases h;omega
       have w:=hp.adv _ _ _ _ (by omega) h1
       refine bind (expect (by omega) _) (fun v b y a' h1 h=>by cases h;exact Nat.le_refl _) fun u b2 u' h2 _ _=>?_
       exact ok_ hv rfl
      ·have hmono:∀(b:Nat) (y:Nd) (a':Nat),b≤M.c.ts.length→(if acceptB M.c b [91]=true then argsP M.c prs (M.c.tok i) (M.c.ts.length+1) [] (b+1) else PR.ok (leafN 1 (M.c.tok i).t 0 (M.c.tok i).p) b)= .ok y a'→b≤a':=by
        intro b y a' hbl h
        split at h
        ·rename_i hac
         have hlt:=accept_lt hac
         rw[argsP_argsL] at h
         obtain⟨ks,b2,h2,h⟩:=bind_inv h
         have:=argsL_bd hp _ _ _ _ _ (by omega) h2
         obtain⟨_,rfl,_⟩:=node_inv h
         omega
        ·cases h;exact Nat.le_refl _
       refine bind (name hb) (fun t b y a' h1 h=>?_) fun t b t' h1 hib htt=>?_
       ·obtain⟨w1,w2,_⟩:=name_lt h1
        exact hmono b y a' (by omega) h
       obtain⟨w1,w2,w3⟩:=name_lt h1
       rw[←M.acc (show M.b≤b by omega) hib]
       split
       ·rename_i hac
        have hlt:=accept_lt hac
        have hlt':=M.lt2 hz (show M.b≤b by omega) hib hlt
        have e2:b+M.δ+1=b+1+M.δ:=by omega
        rw[argsP_argsL,argsP_argsL,e2]
        refine bind (args hz hp hS (M.c.ts.length+1) (M.c'.ts.length+1) [] [] (b+1) (by omega) (by omega) (by omega) (by omega) rfl) (fun ks b2 y a' h2 h=>?_) fun ks b2 ks' h2 hib2 hks=>?_
        ·obtain⟨_,rfl,_⟩:=node_inv h
         exact Nat.le_refl _
        exact node (ht▸en_call hks) hq rfl
       ·exact ok_ (ht▸en_leaf ..) rfl
omit hp hS in
theorem primes:∀(m m':Nat) (n n':Nd) (i:Nat),M.b≤i→i≤M.c.ts.length→M.c.ts.length-i<m→M.c'.ts.length-(i+M.δ)<m'→EN n n'→M.Sm EN (primesP M.c m n i) (primesP M.c' m' n' (i+M.δ))
 | 0,m',n,n',i,hb,hl,h1,h2,hn=>by omega
 |m+1,0,n,n',i,hb,hl,h1,h2,hn=>by omega
 |m+1,m'+1,n,n',i,hb,hl,h1,h2,hn=>by
  have hmono:∀y a',primesP M.c (m+1) n i= .ok y a'→i≤a':=fun y a' h=>(primes_bd _ _ _ _ _ hl h).1
  refine of_in hmono fun hi=>?_
  obtain⟨hk,ht⟩:=M.tk hb hi
  unfold primesP
  rw[←ht]
  split
  ·rename_i hq
   have hlt:i<M.c.ts.length:=by
    rcases Nat.lt_or_ge i M.c.ts.length with q |q
    ·exact q
    ·rw[tok_out q] at hq;simp at hq
   have hlt':=M.lt2 hz hb hi hlt
   have e1:i+M.δ+1=i+1+M.δ:=by omega
   rw[e1]
   refine bind (node (en_kids (map_er_one hn)) (M.pos hb) rfl) (fun x b y a' h3 h=>?_) fun x b x' h3 hib hx=>?_
   ·obtain⟨_,rfl,_⟩:=node_inv h3
    exact(primes_bd _ _ _ _ _ (by omega) h).1
   ·obtain⟨_,rfl,_⟩:=node_inv h3
    exact primes m m' _ _ (i+1) (by omega) (by omega) (by omega) (by omega) hx
  ·exact ok_ hn rfl
theorem operand{i:Nat}(hb:M.b≤i)(hl:i≤M.c.ts.length):M.Sm EN (operandP M.c prs i) (operandP M.c' prs' (i+M.δ)):=by
 have hmono:∀y a',operandP M.c prs i= .ok y a'→i<a':=fun y a' h=>(operand_bd hp hl h).1
 refine of_in (fun y a' h=>Nat.le_of_lt (hmono y a' h)) fun hi=>?_
 obtain⟨hk,ht⟩:=M.tk hb hi
 have hq:=M.pos hb
 have e1:i+M.δ+1=i+1+M.δ:=by omega
 have lt_of:∀{s:List UInt8},s≠[]→(M.c.tok i).t=s→i<M.c.ts.length:=fun {s} hs ht=>by
  rcases Nat.lt_or_ge i M.c.ts.length with q |q
  ·exact q
  ·rw[tok_out q] at ht;exact absurd ht.symm hs
 have key:M.Sm EN ((primaryP M.c prs (M.c.tok i) i).bind fun n a=>primesP M.c (M.c.ts.length+1) n a) ((primaryP M.c' prs' (M.c'.tok (i+M.δ)) (i+M.δ)).bind fun n a=>primesP M.c' (M.c'.ts.length+1) n a):=by
  refine bind (primary hz hp hS hb hl hi) (fun x b y a' h1 h=>?_) fun x b x' h1 hib hx=>?_
  ·have w:=primary_bd hp hl h1
   exact(primes_bd _ _ _ _ _ w.2 h).1
  ·have w:=primary_bd hp hl h1
   have h0:=M.lt2 hz (show M.b≤b-1 by omega) (M.dn _ _ hib (by omega)) (by omega)
   exact primes hz _ _ _ _ b (by omega) w.2 (by omega) (by omega) hx
 unfold operandP
 dsimp only
 rw[←hk,←ht]
 split
 ·rename_i hc
  have hlt:=lt_of (by simp) hc.2
  rw[e1]
  exact quant hp hS (by omega) (by omega) hq
 ·by_cases hso:(M.c.tok i).t=[115,111,109,101]
  ·have hlt:=lt_of (by simp) hso
   have hm2:∀y a',(if(M.c.tok i).t=[115,111,109,101]∧namedB (M.c.tok (i+1))=true∧(M.c.tok (i+2)).t=[58] then quantP M.c prs 46 (M.c.tok i).p (i+1)
       else match lookT preT (M.c.tok i).t with
        |some o=>if(M.c.tok i).k≠0 then(prs o.lv (i+1)).bind fun x a=>nodeP (kidsN o.op [] [x] (M.c.tok i).p) (M.c.tok i).p a else(primaryP M.c prs (M.c.tok i) i).bind fun n a=>primesP M.c (M.c.ts.length+1) n a
        |none=>(primaryP M.c prs (M.c.tok i) i).bind fun n a=>primesP M.c (M.c.ts.length+1) n a)= .ok y a'→i+2≤a':=by
    intro y a' h
    split at h
    ·have:=quant_adv hp h
     obtain⟨e,a3,f,n1,n2,h3,n4,h5,_⟩:=quant_inv h
     have g2:=hp.adv 8 (i+1+2) e a3 (by have:=accept_lt n2;omega) h3
     have g4:=hp.adv 1 (a3+1) f a' (by have:=accept_lt n4;omega) h5
     omega
    ·rw[hso] at h
     have hkk:(M.c.tok i).k≠0:=by rw[tok_in hlt];exact hz.k _ (List.getElem_mem hlt)
     have hlk:lookT preT ([115,111,109,101]:List UInt8)=some ⟨8,34⟩:=rfl
     rw[hlk] at h
     dsimp only at h
     rw[if_pos hkk] at h
     obtain⟨x,b,h1,h⟩:=bind_inv h
     have g1:=hp.adv _ _ _ _ (by omega) h1
     obtain⟨_,rfl,_⟩:=node_inv h
     omega
   refine of_in hm2 fun hi2=>?_
   have e2:i+M.δ+2=i+2+M.δ:=by omega
   rw[e1,e2,←M.nmd (show M.b≤i+1 by omega) (M.dn _ _ hi2 (by omega)),←(M.tk (show M.b≤i+2 by omega) hi2).2]
   split
   ·exact quant hp hS (by omega) (by omega) hq
   ·split
    ·rename_i p hpp
     split
     ·refine bind (hS p.lv (i+1) (by omega) (by omega)) (fun x b y a' h1 h=>?_) fun x b x' h1 hib hx=>?_
      ·obtain⟨_,rfl,_⟩:=node_inv h
       exact Nat.le_refl _
      ·exact node (en_kids (map_er_one hx)) hq rfl
     ·exact key
    ·exact key
  ·rw[if_neg (fun q=>hso q.1),if_neg (fun q=>hso q.1)]
   split
   ·rename_i p hpp
    split
    ·rename_i hkk
     have hlt:i<M.c.ts.length:=by
      rcases Nat.lt_or_ge i M.c.ts.length with q |q
      ·exact q
      ·exact absurd (by rw[tok_out q]) hkk
     rw[e1]
     refine bind (hS p.lv (i+1) (by omega) (by omega)) (fun x b y a' h1 h=>?_) fun x b x' h1 hib hx=>?_
     ·obtain⟨_,rfl,_⟩:=node_inv h
      exact Nat.le_refl _
     ·exact node (en_kids (map_er_one hx)) hq rfl
    ·exact key
   ·exact key
omit hz hp hS in
theorem joined{t t':Tok}(ht:M.EK t t'){b:Bin}{x x' y y':Nd}(hx:EN x x')(hy:EN y y'){a a2:Nat}(e:a2=a+M.δ):M.Sm EN (joinedP t b x y a) (joinedP t' b x' y' a2):=by
 obtain⟨hk,htt,hp⟩:=ht
 have ho:x.op=x'.op:=er_op hx
 unfold joinedP
 rw[←ho,←htt]
 split
 ·exact bad_ hp e
 ·refine bind (node (en_kids ?_) hp e) (fun n b y a' h1 h=>by cases h;exact Nat.le_refl _) fun n b n' h1 hib hn=>?_
  ·split
   ·exact map_er_two hy hx
   ·exact map_er_two hx hy
  ·split
   ·exact ok_ (en_kids (map_er_one hn)) rfl
   ·exact ok_ hn rfl
theorem ops{lev:Nat}(hO:∀(m:Nat) (cmp:Bool) (x:Nd) (i:Nat) (n:Nd) (a':Nat),i≤M.c.ts.length→opsP M.c prs lev m cmp x i= .ok n a'→i≤a'∧a'≤M.c.ts.length):
    ∀(m m':Nat) (cmp:Bool) (x x':Nd) (i:Nat),M.b≤i→i≤M.c.ts.length→M.c.ts.length-i<m→M.c'.ts.length-(i+M.δ)<m'→EN x x'→M.Sm EN (opsP M.c prs lev m cmp x i) (opsP M.c' prs' lev m' cmp x' (i+M.δ))
 | 0,m',cmp,x,x',i,hb,hl,h1,h2,hx=>by omega
 |m+1,0,cmp,x,x',i,hb,hl,h1,h2,hx=>by omega
 |m+1,m'+1,cmp,x,x',i,hb,hl,h1,h2,hx=>by
  refine of_in (fun y a' h=>(hO _ _ _ _ _ _ hl h).1) fun hi=>?_
  obtain⟨hk,ht⟩:=M.tk hb hi
  have e1:i+M.δ+1=i+1+M.δ:=by omega
  unfold opsP
  dsimp only
  rw[←hk,←ht]
  split
  ·exact ok_ hx rfl
  ·rename_i q hq
   split
   ·exact ok_ hx rfl
   ·rename_i hst
    have hlt:i<M.c.ts.length:=by
     rcases Nat.lt_or_ge i M.c.ts.length with r |r
     ·exact r
     ·exact absurd (.inl (by rw[tok_out r])) hst
    have hlt':=M.lt2 hz hb hi hlt
    rw[e1]
    refine bind (hS _ (i+1) (by omega) (by omega)) (fun y b n a' h3 h=>?_) fun y b y' h3 hib hy=>?_
    ·have w1:=hp.bd _ _ (by omega) _ _ h3
     obtain⟨z,b2,h4,h⟩:=bind_inv h
     have w2:=(joined_sz h4).2
     have:=hO _ _ _ _ _ _ (by omega) h
     omega
    have w1:=hp.bd _ _ (by omega) _ _ h3
    have w3:=hp.adv _ _ _ _ (by omega) h3
    refine bind (joined (M.ek hb hi) hx hy rfl) (fun z b2 n a' h4 h=>?_) fun z b2 z' h4 hib2 hz2=>?_
    ·have w2:=(joined_sz h4).2
     have:=hO _ _ _ _ _ _ (by omega) h
     omega
    ·have w2:=(joined_sz h4).2
     subst w2
     exact ops hO m m' _ _ _ b2 (by omega) (by omega) (by omega) (by omega) hz2
end
end Same2
end Go.Proofs.YtalgjkpkkdljaaaGreatDoor
namespace Go.Proofs.YtalgjkpkkdljaaaGreatDoor
open Go.Vs
def FP(u:KT):Prop:=u.2≠[97,108,108]∧u.2≠[115,111,109,101]∧lookT preT u.2=none
def PrimR(c:Rd)(prs:Nat→Nat→PR Nd)(i j:Nat)(a:Nd):Prop:=
 ∀F,j-i≤F→∃F' a',F≤F'+(j-i)∧a'.er=a.er∧((primaryP c prs (c.tok i) i).bind fun n b=>primesP c F n b)=primesP c F' a' j
def SpineR(c:Rd)(prs:Nat→Nat→PR Nd)(lev i j:Nat)(a:Nd):Prop:=
 ∀F,j-i≤F→∃F' a' cmp,F≤F'+(j-i)∧a'.er=a.er∧(8≤lvN a.op→cmp=false)∧((operandP c prs i).bind fun x b=>opsP c prs lev F false x b)=opsP c prs lev F' cmp a' j
def Reads(c:Rd)(h:Nat):Prop:=∀(a:Nd) (fin:Bool) (l:List KT),wf h a→Pt h a fin l→∀(i d:Nat),At c i l→2*h≤d+1→i+l.length≤c.ts.length→
 (14≤lvN a.op→a.op≠45→a.op≠46→(ktAt c (i+l.length)).2≠[91]→PrimR c (parseP c d) i (i+l.length) a∧FP (ktAt c i))∧
 (∀(lev:Nat) (u:KT),(fin=true∨(a.op≠45∧a.op≠46))→ktAt c (i+l.length)=u→Good u→(fin=true→Stop 1 u)→(fin=false→Stop (rlN a.op) u)→1≤lev→lev≤lvN a.op→SpineR c (parseP c d) lev i (i+l.length) a)
section
variable {c : Rd} {h : Nat} (IH : Reads c h)
include IH
end
end Go.Proofs.YtalgjkpkkdljaaaGreatDoor
namespace Go.Proofs.YtalgjkpkkdljaaaGreatDoor
open Go.Vs
def kc(k:Int):UInt8:=if k=1 then 101 else if k=2 then 105 else 102
section
variable {c : Rd} {h : Nat} (IH : Reads c h)
include IH
end
end Go.Proofs.YtalgjkpkkdljaaaGreatDoor
namespace Go.Proofs.YtalgjkpkkdljaaaGreatDoor
open Go.Vs
section
variable {c : Rd} {h : Nat} (IH : Reads c h)
include IH
end
end Go.Proofs.YtalgjkpkkdljaaaGreatDoor
namespace Go.Proofs.YtalgjkpkkdljaaaGreatDoor
open Go.Vs
section
variable {c : Rd} {h : Nat} (IH : Reads c h)
include IH
end
end Go.Proofs.YtalgjkpkkdljaaaGreatDoor
namespace Go.Proofs.YtalgjkpkkdljaaaGreatDoor
open Go.Vs
mutual
theorem meas_er:∀(a b:Nd) (d l:Int),a.er=b.er→meas a d l=meas b d l
 | .mk op nm n c ks pos,.mk op' nm' n' c' ks' pos',d,l,h=>by
  simp only[Nd.er,erL_map,Nd.mk.injEq] at h
  obtain⟨rfl,rfl,rfl,_,h4,_⟩:=h
  have hl:ks.length=ks'.length:=by have:=congrArg List.length h4;simpa using this
  simp only[meas,hl,fits_er h4,measL_er ks ks' d l 1 h4]
theorem measL_er:∀(ks ks':List Nd) (d l cnt:Int),ks.map Nd.er=ks'.map Nd.er→measL ks d l cnt=measL ks' d l cnt
 |[],[],d,l,cnt,_=>rfl
 |k::ks,k'::ks',d,l,cnt,h=>by
  simp only[List.map_cons,List.cons.injEq] at h
  simp only[measL,meas_er k k' _ _ h.1]
  cases meas k' (d+1) (l-cnt) with
  |none=>rfl
  |some c=>exact measL_er ks ks' d l (cnt+c) h.2
 |[],_::_,_,_,_,h=>by simp at h
 |_::_,[],_,_,_,h=>by simp at h
end
theorem valid_er{a b:Nd}(h:a.er=b.er):validN a=validN b:=by
 unfold validN;rw[meas_er a b 1 400 h]
theorem opsB{c:Rd}{o:Nat}{prs:Nat→Nat→PR Nd}(hp:PrsOk c o prs){lev:Nat}:∀(m:Nat) (cmp:Bool) (x:Nd) (i:Nat) (n:Nd) (a':Nat),i≤c.ts.length→opsP c prs lev m cmp x i= .ok n a'→i≤a'∧a'≤c.ts.length
 | 0,cmp,x,i,n,a',hl,h=>by cases h;omega
 |m+1,cmp,x,i,n,a',hl,h=>by
  unfold opsP at h
  dsimp only at h
  split at h
  ·cases h;omega
  ·split at h
   ·cases h;omega
   ·rename_i hst
    have hlt:i<c.ts.length:=by
     rcases Nat.lt_or_ge i c.ts.length with r |r
     ·exact r
     ·exact absurd (.inl (by rw[tok_out r])) hst
    obtain⟨y,b,h1,h3⟩:=bind_inv h
    obtain⟨z,b2,h2,h4⟩:=bind_inv h3
    have g1:=hp.adv _ _ _ _ (by omega) h1
    have g2:=hp.bd _ _ (by omega) _ _ h1
    have g3:=(joined_sz h2).2
    have:=opsB hp m _ _ _ _ _ (by omega) h4
    omega
namespace Same2
variable {M : Same2} (hz : M.c.Sz) (hz' : M.c'.Sz)
include hz hz'
theorem parse:∀d,d≤100→M.SmP (parseP M.c (d+1)) (parseP M.c' (d+1))
 | 0,_=>fun lev i hb hl=>by
  rw[parseP_one hz,parseP_one hz']
  refine of_in (a:=i) (fun y a' h=>?_) fun hi=>?_
  ·split at h
   ·cases h
   ·exact absurd h wrongP_bad
  ·rw[←(M.tk hb hi).1]
   split
   ·exact bad_ (M.pos hb) rfl
   ·exact wrong hb
 |d+1,hd=>fun lev i hb hl=>by
  have hp:=prs_ok hz d (by omega)
  have hS:=parse d (by omega)
  rw[parseP_succ,parseP_succ]
  refine bind (operand hz hp hS hb hl) (fun x b y a' h1 h=>?_) fun x b x' h1 hib hx=>?_
  ·have w:=operand_bd hp hl h1
   exact(opsB hp _ _ _ _ _ _ w.2 h).1
  ·have w:=operand_bd hp hl h1
   have h0:=M.lt2 hz (show M.b≤b-1 by omega) (M.dn _ _ hib (by omega)) (by omega)
   exact ops hz hp hS (opsB hp) _ _ _ _ _ b (by omega) w.2 (by omega) (by omega) hx
theorem whole{i:Nat}(hb:M.b≤i)(hl:i≤M.c.ts.length):M.Sm EN (wholeP M.c i) (wholeP M.c' (i+M.δ)):=by
 have hp:=prs_ok hz 100 (by omega)
 unfold wholeP
 refine bind (parse hz hz' 100 (by omega) 1 i hb hl) (fun x b y a' h1 h=>?_) fun x b x' h1 hib hx=>?_
 ·split at h
  ·cases h
  ·split at h
   ·cases h
   ·cases h;exact Nat.le_refl _
 ·have ho:x.op=x'.op:=er_op hx
  have hv:validN x=validN x':=valid_er hx
  rw[←ho,←hv]
  split
  ·exact bad_ (M.pos hb) rfl
  ·split
   ·exact bad_ (M.pos hb) rfl
   ·exact ok_ hx rfl
theorem block{i:Nat}(hb:M.b≤i)(_hl:i≤M.c.ts.length):M.Sm EN (blockP M.c i) (blockP M.c' (i+M.δ)):=by
 unfold blockP
 refine bind (expect hb _) (fun u b y a' h1 h=>?_) fun u b u' h1 hib _=>?_
 ·obtain⟨w1,w2⟩:=expect_lt h1
  obtain⟨n,b2,h2,h⟩:=bind_inv h
  have w3:=whole_lt hz (by omega) h2
  obtain⟨u3,b3,h3,h⟩:=bind_inv h
  obtain⟨w4,w5⟩:=expect_lt h3
  cases h;omega
 obtain⟨w1,w2⟩:=expect_lt h1
 refine bind (whole hz hz' (by omega) (by omega)) (fun n b2 y a' h2 h=>?_) fun n b2 n' h2 hib2 hn=>?_
 ·obtain⟨u3,b3,h3,h⟩:=bind_inv h
  obtain⟨w4,w5⟩:=expect_lt h3
  cases h;omega
 have w3:=whole_lt hz (by omega) h2
 refine bind (expect (by omega) _) (fun u b3 y a' h3 h=>by cases h;exact Nat.le_refl _) fun u b3 u' h3 _ _=>?_
 exact ok_ hn rfl
theorem formula(h0:M.b=0)(hδ:M.δ=0):M.Sm EN (formulaP M.c) (formulaP M.c'):=by
 unfold formulaP
 have hw:=whole hz hz' (i:=0) (by omega) (Nat.zero_le _)
 rw[hδ] at hw
 refine bind hw (fun n b y a' h1 h=>?_) fun n b n' h1 hib hn=>?_
 ·split at h
  ·exact absurd h wrongP_bad
  ·cases h;exact Nat.le_refl _
 ·have w:=whole_lt hz (Nat.zero_le _) h1
  have hlt:b<M.c.ts.length↔b+M.δ<M.c'.ts.length:=by
   constructor
   ·exact fun q=>M.lt2 hz (by omega) hib q
   ·intro q
    rcases Nat.lt_or_ge b M.c.ts.length with r |r
    ·exact r
    ·have:=(M.tk (show M.b≤b by omega) hib).1
     rw[tok_out r,tok_in q] at this
     exact absurd this.symm (hz'.k _ (List.getElem_mem q))
  by_cases q:b<M.c.ts.length
  ·rw[if_pos q,if_pos (hlt.1 q)]
   exact wrong (by omega)
  ·rw[if_neg q,if_neg (fun r=>q (hlt.2 r))]
   exact ok_ hn rfl
end Same2
def specL(s:List UInt8):Nat→Sp→Nat→Sp
 | 0,q,_=>q
 |n+1,q,a=>if a<(rdS s q).ts.length∧q.f.length<20 then
     (match declP (rdS s q) q a with
     | .ok q' a'=>specL s n q' a'
     | .bad e p a'=>if e=21 then q.flt e p else specL s n (q.flt e p) (skipP (rdS s q) ((rdS s q).ts.length+1) a'))
  else q
section
variable {G : Nat → Option (List PD)} {bx : List (List D)} {tk : List Nat} {s : List UInt8} {q : Sp} {a o m1 m2 m3 : Nat}
theorem ldS0:loadD G ⟨rM (rdS s q) a o m1 m2 m3::bx,tk⟩ none (.box 0 0)=some (.p (slP 3 ((rdS s q).l.map Tok.pd))):=rfl
theorem ldS1:loadD G ⟨rM (rdS s q) a o m1 m2 m3::bx,tk⟩ none (.box 0 1)=some (.p (.int .i64 a)):=rfl
theorem ldS7:loadD G ⟨rM (rdS s q) a o m1 m2 m3::bx,tk⟩ none (.box 0 7)=some (.tsl 0 34 2 q.f):=rfl
theorem ldS8:loadD G ⟨rM (rdS s q) a o m1 m2 m3::bx,tk⟩ (some 4) (.box 0 8)=some (.agg [.tsl 1 81 2 (q.S.map sPD),.tsl 2 70 3 (q.F.map fPD),.tsl 3 41 7 (q.P.map pPD),.tsl 4 44 6 (q.A.map aPD)]):=rfl
end
def psE:Env:=[(2,.box 0 0),(4,.box 4 0),(6,.fn 42 [.box 4 0] [])]
theorem hp_loc(s:List UInt8)(q:Sp)(a:Nat)(out:Out)(env:Env)(ho:out.ren (below 5) (below 5)=some out):
    locD 5 5 (out,⟨env,HP s q a []⟩)=(out,⟨env.map fun y=>(y.1,(y.2.ren (below 5) (below 5)).getD .dead),HP s q a []⟩):=by
 have k1:=ren_rdS s q a 0 (m1:=1) (m2:=2) (m3:=3) (n1:=1) (n2:=2) (n3:=3) (bi:=below 5) (ti:=below 5) rfl rfl rfl (fun t ht=>by simp[below,ht])
 have e1:mapO (D.renL (below 5) (below 5)) [[.p .nils,.p .nils,.p .nils,.p .nils],tabB,tabU,tabS,rM (rdS s q) a 0 1 2 3]=some [[.p .nils,.p .nils,.p .nils,.p .nils],tabB,tabU,tabS,rM (rdS s q) a 0 1 2 3]:=by
  simp[mapO,renB,renU,renS,k1,D.renL,D.ren]
 unfold locD
 simp only[HP,List.take_succ_cons,List.take_zero,e1,ho,tk_rdS,List.length_cons,List.length_nil]
 simp
theorem skipP_congr{c c':Rd}(h:c.ts=c'.ts)(ht:∀i,c.tok i=c'.tok i):∀n a,skipP c n a=skipP c' n a
 | 0,a=>rfl
 |n+1,a=>by
  unfold skipP
  rw[h,ht,skipP_congr h ht n (a+1)]
section
variable {s : List UInt8} (hs : s.length ≤ 20000)
include hs
theorem ps_end(q:Sp)(a:Nat)(hc:¬(a<(rdS s q).ts.length∧q.f.length<20)):
    ∃env,evS (call pg) pg.G iterX fc14_b0 ⟨psE,HP s q a []⟩=some (.exit 0,⟨env,HP s q a []⟩)∧env.get 2= .box 0 0∧env.get 4= .box 4 0:=by
 have h:(rdS s q).Sz:=rdX_sz s _ _ _ _ _ hs
 have hloc:=fun env=>hp_loc s q a (.exit 0) env rfl
 have htk:(rdS s q).tk.length=5:=by rw[tk_rdS];rfl
 have hlen:lenD 1 (.tsl 0 34 2 q.f)=some q.f.length:=lenD_tsl ..
 simp only[psE,HP] at hloc⊢
 by_cases h1:a<(rdS s q).ts.length
 ·have h2:¬q.f.length<20:=fun w=>hc ⟨h1,w⟩
  have h1':(a:Int)<((rdS s q).ts.length:Int):=by omega
  have h2':¬(q.f.length:Int)<20:=by omega
  apply Exists.intro
  refine⟨?_,?_,?_⟩
  ·conv=>lhs;simp[fc14_b0,evKC,evK,evGuard,put,Env.get,Env.keep,entry,Opd.ev,splice,cutAt,indexD,D.asInt?,D.asNat?,u8,binD,strBin,unD,boundsD,sliceD,iaddrD,sub,minmaxD,eqvL,PD.eqv,clsP,cls,clsR,isCl,isW,apartRW,offB,apartWW,clash,insOk,finish,evRes,evRes1,mapO,D.cells,PD.cells,D.refsL,D.refs,D.toksL,D.toks,mkAgg,pures,fillD,fillE,appendD,srcD,D.elems?,D.asPD,Int.toNat_natCast,srcH,srcBH,eqD,D.asPDL,isMapC,ld_succ,ld_zero,st_succ,st_zero,oI,oS,oN,oP,oB,oL,oT,oF,oE,ldr0,ldr1,ldr2,ldr3,ldr4,ldr5,ldr6,str1',str3',ldS0,ldS1,ldS7,lenr,hlen,h1,h1',h2',htk,hloc,D.ren,below]
  all_goals rfl
 ·have h1':¬(a:Int)<((rdS s q).ts.length:Int):=by omega
  apply Exists.intro
  refine⟨?_,?_,?_⟩
  ·conv=>lhs;simp[fc14_b0,evKC,evK,evGuard,put,Env.get,Env.keep,entry,Opd.ev,splice,cutAt,indexD,D.asInt?,D.asNat?,u8,binD,strBin,unD,boundsD,sliceD,iaddrD,sub,minmaxD,eqvL,PD.eqv,clsP,cls,clsR,isCl,isW,apartRW,offB,apartWW,clash,insOk,finish,evRes,evRes1,mapO,D.cells,PD.cells,D.refsL,D.refs,D.toksL,D.toks,mkAgg,pures,fillD,fillE,appendD,srcD,D.elems?,D.asPD,Int.toNat_natCast,srcH,srcBH,eqD,D.asPDL,isMapC,ld_succ,ld_zero,st_succ,st_zero,oI,oS,oN,oP,oB,oL,oT,oF,oE,ldr0,ldr1,ldr2,ldr3,ldr4,ldr5,ldr6,str1',str3',ldS0,ldS1,ldS7,lenr,hlen,h1,h1',htk,hloc,D.ren,below]
  all_goals rfl
theorem ps_ok(q:Sp)(hq:q.Few)(a:Nat)(h1:a<(rdS s q).ts.length)(h2:q.f.length<20){q':Sp}{a':Nat}(hd:declP (rdS s q) q a= .ok q' a'):
    evS (call pg) pg.G iterX fc14_b0 ⟨psE,HP s q a []⟩=some (.norm,⟨psE++[(40,.p (.bool false))],HP s q' a' []⟩):=by
 have h:(rdS s q).Sz:=rdX_sz s _ _ _ _ _ hs
 have hloc:=fun env=>hp_loc s q' a' .norm env rfl
 have htk:∀q,(rdS s q).tk.length=5:=fun q=>by rw[tk_rdS];rfl
 have hlen:lenD 1 (.tsl 0 34 2 q.f)=some q.f.length:=lenD_tsl ..
 have h1':(a:Int)<((rdS s q).ts.length:Int):=by omega
 have h2':(q.f.length:Int)<20:=by omega
 have ht:=tryD hs q hq a (by omega)
 rw[hd] at ht
 obtain⟨ex,ht⟩:=ht
 have hc:=call_HP (args:=[.box 4 0,.fn 42 [.box 4 0] []]) (ex:=[]) (fun _ _=>rfl) rfl rfl rfl ht
 simp only[psE,HP] at hloc hc⊢
 simp[fc14_b0,evKC,evK,evGuard,put,Env.get,Env.keep,Opd.ev,binD,unD,clsP,cls,clsR,isCl,isW,apartRW,offB,apartWW,clash,insOk,ld_succ,ldS0,ldS1,ldS7,lenr,hlen,h1',h2',htk,hc,hloc,D.ren,D.renL,below]
theorem ps_bad(q:Sp)(hq:q.Few)(a:Nat)(h1:a<(rdS s q).ts.length)(h2:q.f.length<20){e:Int}{p a':Nat}(hd:declP (rdS s q) q a= .bad e p a')(ha':a'≤(rdS s q).ts.length)(he:e≠21):
    evS (call pg) pg.G iterX fc14_b0 ⟨psE,HP s q a []⟩=some (.norm,⟨psE,HP s (q.flt e p) (skipP (rdS s q) ((rdS s q).ts.length+1) a') []⟩):=by
 have h:(rdS s q).Sz:=rdX_sz s _ _ _ _ _ hs
 have hloc:=fun env a=>hp_loc s (q.flt e p) a .norm env rfl
 have htk:∀q,(rdS s q).tk.length=5:=fun q=>by rw[tk_rdS];rfl
 have hlen:lenD 1 (.tsl 0 34 2 q.f)=some q.f.length:=lenD_tsl ..
 have hlen2:lenD 1 (.tsl 0 34 2 (q.flt e p).f)=some (q.f.length+1):=by rw[lenD_tsl];simp[Sp.flt]
 have h1':(a:Int)<((rdS s q).ts.length:Int):=by omega
 have h2':(q.f.length:Int)<20:=by omega
 have ht:=tryD hs q hq a (by omega)
 rw[hd] at ht
 obtain⟨ex,ht⟩:=ht
 have hc:=call_HP (args:=[.box 4 0,.fn 42 [.box 4 0] []]) (ex:=[]) (fun _ _=>rfl) rfl rfl rfl ht
 have hts:(rdS s (q.flt e p)).ts=(rdS s q).ts:=rfl
 have hsk1:∃ex,call pg 44 [.box 0 0] (rH (rdS s (q.flt e p)) a' 0 [] [])=some (.val .undef,rH (rdS s (q.flt e p)) (skipP (rdS s q) ((rdS s q).ts.length+1) a') 0 ex []):=by
  have h':(rdS s (q.flt e p)).Sz:=rdX_sz s _ _ _ _ _ hs
  obtain⟨out,env,ho,ee⟩:=sk_loop h' 0 [tabB,tabU,tabS] (rdS s (q.flt e p)).tk ((rdS s (q.flt e p)).ts.length+1) a' [(0,.box 0 0)] rfl (by rw[hts];exact ha') (by omega)
  refine⟨[],call_body (fc:=fc44) rfl rfl rfl rfl ?_⟩
  simp only[rH,List.append_nil]
  rw[skipP_congr (c:=rdS s (q.flt e p)) (c':=rdS s q) rfl (fun _=>rfl),hts] at ee
  rcases ho with rfl |rfl<;>simp[fc44,Env.get,Env.keep,entry,finish,evRes,ee]
 obtain⟨ex2,hsk1⟩:=hsk1
 have hsk:=call_HP (args:=[.box 4 0]) (ex:=[]) (fun _ _=>rfl) rfl rfl rfl hsk1
 have hw:IntKind.i64.wrap (q.f.length:Int)=(q.f.length:Int):=wrap64 (by omega) (by omega)
 have hi:iaddrD none 2 (.tsl 0 34 2 (q.flt e p).f) (q.f.length:Int)=some (.ro [.int .i64 e,.int .i64 p] 0):=by
  simp[iaddrD,D.elems?,Sp.flt,dg,PD.cells]
 have lr:∀G H,loadD G H none (.ro [.int .i64 e,.int .i64 p] 0)=some (.p (.int .i64 e)):=fun _ _=>rfl
 have he':(e==21)=false:=by simp[he]
 simp only[psE,HP] at hloc hc hsk⊢
 generalize skipP (rdS s q) ((rdS s q).ts.length+1) a'=a2 at *
 generalize hq2:q.flt e p=q2 at *
 simp[fc14_b0,evKC,evK,evGuard,put,Env.get,Env.keep,Opd.ev,D.asInt?,binD,unD,clsP,cls,clsR,isCl,isW,apartRW,offB,apartWW,clash,insOk,ld_succ,ldS0,ldS1,ldS7,lenr,hlen,hlen2,h1',h2',htk,hc,hsk,hw,hi,lr,he',hloc,D.ren,D.renL,below]
theorem ps_stop(q:Sp)(hq:q.Few)(a:Nat)(h1:a<(rdS s q).ts.length)(h2:q.f.length<20){p a':Nat}(hd:declP (rdS s q) q a= .bad 21 p a'):
    ∃env,evS (call pg) pg.G iterX fc14_b0 ⟨psE,HP s q a []⟩=some (.exit 0,⟨env,HP s (q.flt 21 p) a' []⟩)∧env.get 2= .box 0 0∧env.get 4= .box 4 0:=by
 have h:(rdS s q).Sz:=rdX_sz s _ _ _ _ _ hs
 have hloc:=fun env=>hp_loc s (q.flt 21 p) a' (.exit 0) env rfl
 have htk:∀q,(rdS s q).tk.length=5:=fun q=>by rw[tk_rdS];rfl
 have hlen:lenD 1 (.tsl 0 34 2 q.f)=some q.f.length:=lenD_tsl ..
 have hlen2:lenD 1 (.tsl 0 34 2 (q.flt 21 p).f)=some (q.f.length+1):=by rw[lenD_tsl];simp[Sp.flt]
 have h1':(a:Int)<((rdS s q).ts.length:Int):=by omega
 have h2':(q.f.length:Int)<20:=by omega
 have ht:=tryD hs q hq a (by omega)
 rw[hd] at ht
 obtain⟨ex,ht⟩:=ht
 have hc:=call_HP (args:=[.box 4 0,.fn 42 [.box 4 0] []]) (ex:=[]) (fun _ _=>rfl) rfl rfl rfl ht
 have hw:IntKind.i64.wrap (q.f.length:Int)=(q.f.length:Int):=wrap64 (by omega) (by omega)
 have hi:iaddrD none 2 (.tsl 0 34 2 (q.flt 21 p).f) (q.f.length:Int)=some (.ro [.int .i64 21,.int .i64 p] 0):=by
  simp[iaddrD,D.elems?,Sp.flt,dg,PD.cells]
 have lr:∀G H,loadD G H none (.ro [.int .i64 21,.int .i64 p] 0)=some (.p (.int .i64 21)):=fun _ _=>rfl
 simp only[psE,HP] at hloc hc⊢
 generalize hq2:q.flt 21 p=q2 at *
 apply Exists.intro
 refine⟨?_,?_,?_⟩
 ·conv=>lhs;simp[fc14_b0,evKC,evK,evGuard,put,Env.get,Env.keep,entry,Opd.ev,splice,cutAt,indexD,D.asInt?,D.asNat?,u8,binD,strBin,unD,boundsD,sliceD,sub,minmaxD,eqvL,PD.eqv,clsP,cls,clsR,isCl,isW,apartRW,offB,apartWW,clash,insOk,finish,evRes,evRes1,mapO,D.cells,PD.cells,D.refsL,D.refs,D.toksL,D.toks,mkAgg,pures,fillD,fillE,appendD,srcD,D.elems?,D.asPD,Int.toNat_natCast,srcH,srcBH,eqD,D.asPDL,isMapC,ld_succ,ld_zero,st_succ,st_zero,oI,oS,oN,oP,oB,oL,oT,oF,oE,ldr0,ldr1,ldr2,ldr3,ldr4,ldr5,ldr6,str1',str3',ldS0,ldS1,ldS7,lenr,hlen,hlen2,h1,h1',h2',htk,hc,hw,hi,lr,hloc,D.ren,D.renL,below]
 all_goals rfl
end
end Go.Proofs.YtalgjkpkkdljaaaGreatDoor
namespace Go.Proofs.YtalgjkpkkdljaaaGreatDoor
open Go.Vs
theorem callD_new{g:Nat}{T:List D}(h:call pg g [] ⟨[],[]⟩=some (.val (.mapr 0),⟨[T],[]⟩))(hT:∀bi ti,D.renL bi ti T=some T)(bx:List (List D))(tk:List Nat):callD (call pg) g [] ⟨bx,tk⟩=some (.val (.mapr bx.length),⟨bx++[T],tk⟩):=by
 have hr:∀n,reach ⟨bx,tk⟩ n []=[]:=fun n=>by cases n<;>simp[reach,boxRefs]
 refine(callD_of [] [] (hr _) rfl rfl rfl rfl rfl h).trans ?_
 simp[back,firstN,mapO,Res.ren,D.ren,hT,putAll]
theorem shapesC:call pg 46 [] ⟨[],[]⟩=some (.val (.mapr 0),⟨[tabS],[]⟩):=call_of_evF 10 (isTab_eq (by kernel_rfl))
def rd0(s:List UInt8):Rd:=⟨toSl (Lx.lex s).1,s.length,[.p .nils,.p .nils,.p .nils,.p .nils,.p .nils],[]⟩
theorem open_ok{s:List UInt8}(hs:s.length≤140737488355328)(he:(Lx.lex s).2.1=0):call pg 41 [.p (.str s)] ⟨[],[]⟩=some (.val (.tup [.box 3 0,.p .nils]),⟨[tabB,tabU,tabS,rM (rd0 s) 0 0 0 1 2],[]⟩):=by
 have hl:=Lx.lex_eq s hs
 have n1:=callD_new ops0 renB
 have n2:=callD_new pre0 renU
 have n3:=callD_new shapesC renS
 have hts:(Lx.lex s).toks= .slice 3 ((Lx.lex s).1.map Tok.pd):=by simp[Lx.Lexed.toks,he]
 refine call_body (fc:=fc41) rfl rfl rfl rfl ?_
 simp only[Lx.Lexed.d,hts,he,rM,rd0,slP_toSl] at hl⊢
 simp[fc41,evKC,evK,put,Env.get,Env.keep,entry,Opd.ev,splice,binD,lenD,finish,evRes,evRes1,mapO,D.cells,D.one,PD.one,mkAgg,pures,fillD,hl,n1,n2,n3]
theorem open_bad{s:List UInt8}(hs:s.length≤140737488355328)(he:(Lx.lex s).2.1≠0):call pg 41 [.p (.str s)] ⟨[],[]⟩=some (.val (.tup [.p .nilp,.fsl 34 2 [dg (Lx.lex s).2.1 (Lx.lex s).2.2]]),⟨[],[]⟩):=by
 have hl:=Lx.lex_eq s hs
 have he':(((Lx.lex s).2.1 :Int)!=0)=true:=by simp[bne];exact he
 refine call_body (fc:=fc41) rfl rfl rfl rfl ?_
 simp only[Lx.Lexed.d,dg] at hl⊢
 simp[fc41,evKC,evK,put,Env.get,Env.keep,entry,Opd.ev,splice,binD,finish,evRes,evRes1,mapO,D.cells,D.one,PD.one,PD.cells,mkAgg,pures,fillD,fillE,D.asPD,hl,he']
def zeroN:Nd:=.mk 0 [] 0 0 [] 0
def pf(s:List UInt8):Nd×PD:=
 if(Lx.lex s).2.1≠0 then(zeroN,.slice 2 [dg (Lx.lex s).2.1 (Lx.lex s).2.2])
 else match formulaP (rdF s []) with
  | .ok n _=>(n,.nils)
  | .bad e p _=>(zeroN,.slice 2 [dg e p])
theorem lex_small{s:List UInt8}(he:(Lx.lex s).2.1=0):s.length≤20000:=by
 rcases Nat.lt_or_ge 20000 s.length with h |h
 ·unfold Lx.lex at he
  rw[if_pos h] at he
  cases he
 ·exact h
theorem open_at{s:List UInt8}(hs:s.length≤140737488355328)(he:(Lx.lex s).2.1=0)(b0:List D):callD (call pg) 41 [.p (.str s)] ⟨[b0],[]⟩=some (.val (.tup [.box 4 0,.p .nils]),⟨[b0,tabB,tabU,tabS,rM (rd0 s) 0 0 1 2 3],[]⟩):=by
 refine(callD_of (as1:=[.p (.str s)]) [] [] rfl rfl rfl rfl rfl rfl (open_ok hs he)).trans ?_
 have k1:D.renL (fun i=>some (1+i)) (fun _=>none) (rM (rd0 s) 0 0 0 1 2)=some (rM (rd0 s) 0 0 1 2 3):=ren_rM (c:=rd0 s) (bi:=fun i=>some (1+i)) (ti:=fun _=>none) rfl rfl rfl rfl 0 0
 simp[back,firstN,mapO,Res.ren,D.ren,D.renL,renB,renU,renS,putAll,k1]
theorem open_bad_at{s:List UInt8}(hs:s.length≤140737488355328)(he:(Lx.lex s).2.1≠0)(b0:List D):callD (call pg) 41 [.p (.str s)] ⟨[b0],[]⟩=some (.val (.tup [.p .nilp,.fsl 34 2 [dg (Lx.lex s).2.1 (Lx.lex s).2.2]]),⟨[b0],[]⟩):=by
 refine(callD_of (as1:=[.p (.str s)]) [] [] rfl rfl rfl rfl rfl rfl (open_bad hs he)).trans ?_
 simp[back,firstN,mapO,Res.ren,D.ren,D.renL,putAll]
theorem tokb_rd{s:List UInt8}{env:Env}(he:env.get 10= .box 4 0)(b0 b5:List D):tokbD 10 7 34 2 ⟨env,⟨[b0,tabB,tabU,tabS,rM (rd0 s) 0 0 1 2 3,b5],[]⟩⟩=some ⟨env,⟨[b0,tabB,tabU,tabS,rM (rdF s []) 0 0 1 2 3,b5],[0]⟩⟩:=by
 simp[tokbD,he,rM,rd0,rdF,isMapC,tokD]
def HPF(s:List UInt8)(f:List PD)(a:Nat)(z:List PD):Hp:=⟨[zN0.map .p,tabB,tabU,tabS,rM (rdF s f) a 0 1 2 3,[.box 4 0],z.map .p],[f.length]⟩
theorem call43{s:List UInt8}{f:List PD}{a:Nat}{z:List PD}{ex:List (List D)}{b:Bool}(h:call pg 43 [.box 0 0,.fn 47 [] [.box 1 0,.box 2 0]] (H43 (rdF s []) 0 0 zN0 [])=some (.val (.p (.bool b)),H43 (rdF s f) a 0 z ex)):
    callD (call pg) 43 [.box 4 0,.fn 47 [] [.box 5 0,.box 6 0]] (HPF s [] 0 zN0)=some (.val (.p (.bool b)),HPF s f a z):=by
 have q0:ins [] (D.refsL [.box 4 0,.fn 47 [] [.box 5 0,.box 6 0]])=[4,5,6]:=rfl
 have q1:reach (HPF s [] 0 zN0) (HPF s [] 0 zN0).bx.length (ins [] (D.refsL [.box 4 0,.fn 47 [] [.box 5 0,.box 6 0]]))=[4,5,6,1,2,3]:=by
  rw[q0]
  simp[reach,boxRefs,ins,HPF,refs_rM (rdF_ok s []),refsB,refsU,refsS,D.refsL,D.refs]
 have q5:mapO (fun i=>match(HPF s [] 0 zN0).bx[i]? with |some cs=>D.renL (idx [4,5,6,1,2,3]) (idx [0]) cs |none=>none) [4,5,6,1,2,3]=some (H43 (rdF s []) 0 0 zN0 []).bx:=by
  have k1:=ren_rdF s [] 0 0 (m1:=1) (m2:=2) (m3:=3) (n1:=3) (n2:=4) (n3:=5) (bi:=idx [4,5,6,1,2,3]) (ti:=idx [0]) rfl rfl rfl rfl
  have k0:idx [4,5,6,1,2,3] 4=some 0:=rfl
  simp[mapO,H43,HPF,renB,renU,renS,k1,D.renL,D.ren,k0]
 refine(callD_of (as1:=[.box 0 0,.fn 47 [] [.box 1 0,.box 2 0]]) (tk:=[0]) [4,5,6,1,2,3] [0] q1 ?_ rfl rfl q5 rfl h).trans ?_
 ·simp[boxToks,ins,HPF,toks_rdF,toksB,toksU,toksS,D.toksL,D.toks]
 ·have k2:=ren_rdF s f a 0 (m1:=3) (m2:=4) (m3:=5) (n1:=1) (n2:=2) (n3:=3) (bi:=fun i=>[4,5,6,1,2,3][i]?) (ti:=fun t=>[0][t]?) rfl rfl rfl rfl
  simp[back,firstN,mapO,H43,HPF,renB,renU,renS,k2,D.renL,D.ren,Res.ren,putAll,tk_rdF]
theorem zero_cells:zeroN.pd= .agg zN0:=rfl
theorem seal0{r r':Res}{H:Hp}(hr:(r.frz 0 H).ren (below 0) some=some r'):sealF 0 (r,H)=(r',⟨[],H.tk⟩):=by
 unfold sealF
 simp only[List.take_zero,mapO,hr]
 rw[if_pos (Nat.zero_le _)]
section
variable {G : Nat → Option (List PD)} {bx : List (List D)} {tk : List Nat} {a o m1 m2 m3 i n : Nat} {x : PD} {s : List UInt8} {f : List PD}
theorem oNp:PD.nilp.one=true:=rfl
theorem st_ptr:storeD ⟨[.p x]::bx,tk⟩ 1 (.box 0 0) (.box i n)=some ⟨[.box i n]::bx,tk⟩:=by
 simp[storeD,isMapC,D.cells,D.one,splice]
theorem ldF7:loadD G ⟨rM (rdF s f) a o m1 m2 m3::bx,tk⟩ none (.box 0 7)=some (.tsl 0 34 2 f):=rfl
end
theorem pf_body(s:List UInt8)(hs:s.length≤140737488355328):∃d h,call pg 17 [.p (.str s)] ⟨[],[]⟩=some (.val d,h)∧d.ren (fun _=>none) (fun _=>none)=some (.tup [.p (pf s).1.pd,.p (pf s).2]):=by
 unfold pf
 by_cases he:(Lx.lex s).2.1=0
 ·rw[if_neg (fun q=>q he)]
  have h1:=open_at hs he (zN0.map .p)
  have h2:=tryF (lex_small he)
  cases r:formulaP (rdF s []) with
  |ok n a=>
   rw[r] at h2
   obtain⟨ex,h2⟩:=h2
   have h3:=call43 h2
   have hkn:=pone_kids n
   refine⟨.tup [.p n.pd,.p .nils],_,call_frz (fc:=fc17) rfl rfl rfl rfl (r:=(.val (.tup [.p n.pd,.p .nils]),⟨[n.cells.map .p,tabB,tabU,tabS,rM (rdF s []) a 0 1 2 3,[.box 4 0],n.cells.map .p],[0]⟩)) ?_ (seal0 rfl),rfl⟩
   simp only[HPF,zN0,List.map_cons,List.map_nil,pd_cells n,Nd.cells,List.length_nil] at h1 h3⊢
   simp[fc17,evKC,evK,put,Env.get,Env.keep,entry,Opd.ev,splice,cutAt,binD,unD,sub,finish,evRes,evRes1,mapO,D.cells,mkAgg,pures,ld_succ,ld_zero,st_succ,st_zero,oP,h1,h3,tokb_rd,ld_ptr,hkn,oNp,st_ptr,lenD_nils]
  |bad e p a=>
   rw[r] at h2
   obtain⟨z,ex,hz,h2⟩:=h2
   have h3:=call43 h2
   obtain⟨x1,x2,x3,x4,x5,rfl⟩:=hz
   refine⟨.tup [.p zeroN.pd,.tsl 0 34 2 [dg e p]],_,call_frz (fc:=fc17) rfl rfl rfl rfl (r:=(.val (.tup [.p zeroN.pd,.tsl 0 34 2 [dg e p]]),⟨[zN0.map .p,tabB,tabU,tabS,rM (rdF s [dg e p]) a 0 1 2 3,[.box 4 0],[.p x1,.p x2,.p x3,.p x4,.p x5]],[1]⟩)) ?_ (seal0 rfl),rfl⟩
   simp only[HPF,zero_cells,zN0,List.map_cons,List.map_nil,List.length_nil,List.length_cons] at h1 h3⊢
   simp[fc17,evKC,evK,put,Env.get,Env.keep,entry,Opd.ev,splice,cutAt,binD,unD,sub,clsP,cls,clsR,isCl,isW,apartRW,offB,apartWW,clash,insOk,finish,evRes,evRes1,mapO,D.cells,mkAgg,pures,fillD,ld_succ,ld_zero,st_succ,st_zero,oP,h1,h3,tokb_rd,ld_ptr,ldF7,oNp,st_ptr,lenD_nils]
 ·rw[if_pos he]
  have h1:=open_bad_at hs he (zN0.map .p)
  refine⟨.tup [.p zeroN.pd,.p (.slice 2 [dg (Lx.lex s).2.1 (Lx.lex s).2.2])],_,call_frz (fc:=fc17) rfl rfl rfl rfl (r:=(.val (.tup [.p zeroN.pd,.fsl 34 2 [dg (Lx.lex s).2.1 (Lx.lex s).2.2]]),⟨[zN0.map .p,[.p .nilp]],[]⟩)) ?_ (seal0 rfl),rfl⟩
  simp only[zero_cells,zN0,List.map_cons,List.map_nil] at h1⊢
  simp[fc17,evKC,evK,put,Env.get,Env.keep,entry,Opd.ev,splice,cutAt,binD,sub,finish,evRes,evRes1,mapO,D.cells,mkAgg,pures,fillD,ld_zero,st_succ,st_zero,oP,h1,oNp,st_one oNp,lenD_fsl,tokbD]
theorem pf_eq(s:List UInt8)(hs:s.length≤140737488355328)(H:Hp):callD (call pg) 17 [.p (.str s)] H=some (.val (.tup [.p (pf s).1.pd,.p (pf s).2]),H):=by
 obtain⟨d,h,h1,h2⟩:=pf_body s hs
 exact callD_pure h1 rfl rfl rfl h2
end Go.Proofs.YtalgjkpkkdljaaaGreatDoor
namespace Go.Proofs.YtalgjkpkkdljaaaGreatDoor
open Go.Vs
structure Sp.Wf (q:Sp):Prop where
 S:q.S.length≤4
 F:q.F.length≤6
 P:q.P.length≤8
 A:q.A.length≤16
 pv:∀x∈q.P,validN x.2.2=true∧knd x.2.2.op=3
 av:∀x∈q.A,validN x.2=true∧knd x.2.op=3
theorem Sp.Wf.few{q:Sp}(h:q.Wf)(hf:q.f.length≤1000):q.Few:=⟨hf,by have:=h.S;omega,by have:=h.F;omega,by have:=h.P;omega,by have:=h.A;omega⟩
theorem Sp.Wf.flt{q:Sp}(h:q.Wf)(e:Int)(p:Nat):(q.flt e p).Wf:=⟨h.S,h.F,h.P,h.A,h.pv,h.av⟩
theorem decl_wf{c:Rd}(hc:c.Sz){q:Sp}(h:q.Wf){a:Nat}{q':Sp}{a':Nat}(hw:declP c q a= .ok q' a'):q'.Wf∧q'.f=q.f:=by
 unfold declP at hw
 split at hw
 ·unfold sortDeclP at hw
  split at hw
  ·cases hw
  ·rename_i hl
   obtain⟨t,b,h1,hw⟩:=bind_inv hw
   obtain⟨u,b2,h2,hw⟩:=bind_inv hw
   cases hw
   exact⟨⟨by simp;omega,h.F,h.P,h.A,h.pv,h.av⟩,rfl⟩
 ·split at hw
  ·unfold fieldDeclP at hw
   split at hw
   ·cases hw
   ·rename_i hl
    obtain⟨u,b,h1,hw⟩:=bind_inv hw
    obtain⟨t,b2,h2,hw⟩:=bind_inv hw
    obtain⟨u3,b3,h3,hw⟩:=bind_inv hw
    obtain⟨i,b4,h4,hw⟩:=bind_inv hw
    obtain⟨l,b5,h5,hw⟩:=bind_inv hw
    obtain⟨u6,b6,h6,hw⟩:=bind_inv hw
    cases hw
    exact⟨⟨h.S,by simp;omega,h.P,h.A,h.pv,h.av⟩,rfl⟩
  ·split at hw
   ·unfold predDeclP at hw
    split at hw
    ·cases hw
    ·rename_i hl
     obtain⟨t,b,h1,hw⟩:=bind_inv hw
     obtain⟨u,b2,h2,hw⟩:=bind_inv hw
     obtain⟨l,b3,h3,hw⟩:=bind_inv hw
     obtain⟨n,b4,h4,hw⟩:=bind_inv hw
     obtain⟨_,_,w3,w4⟩:=block_lt hc h4
     cases hw
     refine⟨⟨h.S,h.F,by simp;omega,h.A,fun x hx=>?_,h.av⟩,rfl⟩
     rcases List.mem_append.1 hx with r |r
     ·exact h.pv x r
     ·rw[List.mem_singleton.1 r];exact⟨w3,w4⟩
   ·split at hw
    ·unfold factDeclP at hw
     split at hw
     ·cases hw
     ·rename_i hl
      obtain⟨t,b,h1,hw⟩:=bind_inv hw
      obtain⟨n,b2,h2,hw⟩:=bind_inv hw
      obtain⟨_,_,w3,w4⟩:=block_lt hc h2
      cases hw
      refine⟨⟨h.S,h.F,h.P,by simp;omega,h.pv,fun x hx=>?_⟩,rfl⟩
      rcases List.mem_append.1 hx with r |r
      ·exact h.av x r
      ·rw[List.mem_singleton.1 r];exact⟨w3,w4⟩
    ·exact absurd hw wrongP_bad
theorem po_rdS(s:List UInt8)(q:Sp):Po (rdS s q):=by
 intro i
 rcases Nat.lt_or_ge i (rdS s q).ts.length with w |w
 ·rw[tok_in w]
  have hm:(rdS s q).ts[i]∈(Lx.lex s).1:=by rw[←show(rdS s q).ts=(Lx.lex s).1 from rdX_ts ..];exact List.getElem_mem w
  obtain⟨j,hj,e1,_⟩:=Lx.lex_mem hm
  rw[e1,Lx.tok_at]
  show j≤s.length
  omega
 ·rw[tok_out w];exact Nat.le_refl _
theorem ps_loop{s:List UInt8}(hs:s.length≤20000):∀(n a:Nat) (q:Sp) (e0:Env),e0.keep [2,4,6]=psE→q.Wf→q.f.length≤20→a≤(rdS s q).ts.length→(rdS s q).ts.length-a<n→
    ∃env a',loopK (call pg) pg.G [2,4,6] fc14_b0 ⟨e0,HP s q a []⟩=some (.exit 0,⟨env,HP s (specL s n q a) a' []⟩)∧env.get 2= .box 0 0∧env.get 4= .box 4 0:=by
 intro n
 induction n with
 |zero=>intro a q e0 _ _ _ _ h;omega
 |succ n ih=>
  intro a q e0 he hw hf ha hn
  have h:(rdS s q).Sz:=rdX_sz s _ _ _ _ _ hs
  have hfew:=hw.few (by omega)
  unfold specL
  by_cases hc:a<(rdS s q).ts.length∧q.f.length<20
  ·rw[if_pos hc]
   cases hd:declP (rdS s q) q a with
   |ok q' a'=>
    dsimp only
    obtain⟨w1,w2⟩:=decl_lt h hc.1 hd
    obtain⟨w3,w4⟩:=decl_wf h hw hd
    have hts:(rdS s q').ts=(rdS s q).ts:=rfl
    obtain⟨env,a2,e,g2,g4⟩:=ih a' q' (psE++[(40,.p (.bool false))]) rfl w3 (by rw[w4];exact hf) (by rw[hts];exact w2) (by rw[hts];omega)
    refine⟨env,a2,?_,g2,g4⟩
    rw[←e]
    refine loopK_norm ?_
    rw[he]
    exact ps_ok hs q hfew a hc.1 hc.2 hd
   |bad er p a'=>
    dsimp only
    have hb:=decl_bo h (po_rdS s q) hc.1 hd
    by_cases h21:er=21
    ·rw[if_pos h21]
     subst h21
     obtain⟨env,e,g2,g4⟩:=ps_stop hs q hfew a hc.1 hc.2 hd
     refine⟨env,a',loopK_out ?_ (by simp),g2,g4⟩
     rw[he];exact e
    ·rw[if_neg h21]
     have hk:=skipP_le (c:=rdS s q) ((rdS s q).ts.length+1) a' hb.len
     have hlt:a<skipP (rdS s q) ((rdS s q).ts.length+1) a':=by
      have hle:=hb.le
      rcases Nat.lt_or_ge a a' with w |w
      ·omega
      ·have :a'=a:=by omega
       subst this
       unfold skipP
       rw[if_pos hc.1]
       split
       ·omega
       ·have:=skipP_le (c:=rdS s q) (rdS s q).ts.length (a'+1) (by omega);omega
     have hts:(rdS s (q.flt er p)).ts=(rdS s q).ts:=rfl
     obtain⟨env,a2,e,g2,g4⟩:=ih (skipP (rdS s q) ((rdS s q).ts.length+1) a') (q.flt er p) psE rfl (hw.flt er p) (by simp[Sp.flt];omega) (by rw[hts];exact hk.2) (by rw[hts];omega)
     refine⟨env,a2,?_,g2,g4⟩
     rw[←e]
     refine loopK_norm ?_
     rw[he]
     exact ps_bad hs q hfew a hc.1 hc.2 hd hb.len h21
  ·rw[if_neg hc]
   obtain⟨env,e,g2,g4⟩:=ps_end hs q a hc
   refine⟨env,a,loopK_out ?_ (by simp),g2,g4⟩
   rw[he];exact e
def q0:Sp:=⟨[],[],[],[],[]⟩
theorem wf_q0:q0.Wf:=⟨by decide,by decide,by decide,by decide,fun x hx=>(List.not_mem_nil hx).elim,fun x hx=>(List.not_mem_nil hx).elim⟩
def parseS(s:List UInt8):Sp:=specL s ((Lx.lex s).1.length+1) q0 0
def Sp.d(q:Sp):D:=.agg [.p (.slice 2 (q.S.map sPD)),.p (.slice 3 (q.F.map fPD)),.p (.slice 7 (q.P.map pPD)),.p (.slice 6 (q.A.map aPD))]
def z4:D:=.p (.agg [.nils,.nils,.nils,.nils])
def parseD(s:List UInt8):D:=
 if(Lx.lex s).2.1≠0 then .tup [z4,.p (.slice 2 [dg (Lx.lex s).2.1 (Lx.lex s).2.2])]
 else if(parseS s).f=[] then .tup [(parseS s).d,.p .nils] else .tup [z4,.p (.slice 2 (parseS s).f)]
def rdK(s:List UInt8)(X:List D)(tk:List Nat):Rd:=⟨toSl (Lx.lex s).1,s.length,X,tk⟩
section
variable {s : List UInt8} {env : Env} (he : env.get 4 = .box 4 0) (b0 : List D)
include he
theorem tb0:tokbD 4 7 34 2 ⟨env,⟨[b0,tabB,tabU,tabS,rM (rd0 s) 0 0 1 2 3],[]⟩⟩=some ⟨env,⟨[b0,tabB,tabU,tabS,rM (rdK s [.tsl 0 34 2 [],.p .nils,.p .nils,.p .nils,.p .nils] [0]) 0 0 1 2 3],[0]⟩⟩:=by
 simp[tokbD,he,rM,rd0,rdK,isMapC,tokD]
theorem tb1:tokbD 4 8 81 2 ⟨env,⟨[b0,tabB,tabU,tabS,rM (rdK s [.tsl 0 34 2 [],.p .nils,.p .nils,.p .nils,.p .nils] [0]) 0 0 1 2 3],[0]⟩⟩=some ⟨env,⟨[b0,tabB,tabU,tabS,rM (rdK s [.tsl 0 34 2 [],.tsl 1 81 2 [],.p .nils,.p .nils,.p .nils] [0,0]) 0 0 1 2 3],[0,0]⟩⟩:=by
 simp[tokbD,he,rM,rdK,isMapC,tokD]
theorem tb2:tokbD 4 9 70 3 ⟨env,⟨[b0,tabB,tabU,tabS,rM (rdK s [.tsl 0 34 2 [],.tsl 1 81 2 [],.p .nils,.p .nils,.p .nils] [0,0]) 0 0 1 2 3],[0,0]⟩⟩=some ⟨env,⟨[b0,tabB,tabU,tabS,rM (rdK s [.tsl 0 34 2 [],.tsl 1 81 2 [],.tsl 2 70 3 [],.p .nils,.p .nils] [0,0,0]) 0 0 1 2 3],[0,0,0]⟩⟩:=by
 simp[tokbD,he,rM,rdK,isMapC,tokD]
theorem tb3:tokbD 4 10 41 7 ⟨env,⟨[b0,tabB,tabU,tabS,rM (rdK s [.tsl 0 34 2 [],.tsl 1 81 2 [],.tsl 2 70 3 [],.p .nils,.p .nils] [0,0,0]) 0 0 1 2 3],[0,0,0]⟩⟩=some ⟨env,⟨[b0,tabB,tabU,tabS,rM (rdK s [.tsl 0 34 2 [],.tsl 1 81 2 [],.tsl 2 70 3 [],.tsl 3 41 7 [],.p .nils] [0,0,0,0]) 0 0 1 2 3],[0,0,0,0]⟩⟩:=by
 simp[tokbD,he,rM,rdK,isMapC,tokD]
theorem tb4:tokbD 4 11 44 6 ⟨env,⟨[b0,tabB,tabU,tabS,rM (rdK s [.tsl 0 34 2 [],.tsl 1 81 2 [],.tsl 2 70 3 [],.tsl 3 41 7 [],.p .nils] [0,0,0,0]) 0 0 1 2 3],[0,0,0,0]⟩⟩=some ⟨env,⟨[b0,tabB,tabU,tabS,rM (rdS s q0) 0 0 1 2 3],[0,0,0,0,0]⟩⟩:=by
 simp[tokbD,he,rM,rdK,rdS,rdX,X5,q0,isMapC,tokD]
end
theorem pa_body(s:List UInt8)(hs:s.length≤140737488355328):∃d h,call pg 14 [.p (.str s)] ⟨[],[]⟩=some (.val d,h)∧d.ren (fun _=>none) (fun _=>none)=some (parseD s):=by
 unfold parseD
 by_cases he:(Lx.lex s).2.1=0
 ·rw[if_neg (fun q=>q he)]
  have hs2:=lex_small he
  have h1:=open_at hs he [.p .nils,.p .nils,.p .nils,.p .nils]
  have hts:(rdS s q0).ts.length=(Lx.lex s).1.length:=by rw[show(rdS s q0).ts=(Lx.lex s).1 from rdX_ts ..]
  obtain⟨env,a',hL,g2,g4⟩:=ps_loop hs2 ((Lx.lex s).1.length+1) 0 q0 psE rfl wf_q0 (by decide) (Nat.zero_le _) (by omega)
  rw[show specL s ((Lx.lex s).1.length+1) q0 0=parseS s from rfl] at hL
  have hlen:lenD 1 (.tsl 0 34 2 (parseS s).f)=some (parseS s).f.length:=lenD_tsl ..
  have htk:(rdS s q0).tk=[0,0,0,0,0]:=rfl
  generalize parseS s=q at *
  by_cases hf:q.f=[]
  ·rw[if_pos hf]
   have hl0:q.f.length=0:=by rw[hf];rfl
   refine⟨.tup [.agg [.tsl 1 81 2 (q.S.map sPD),.tsl 2 70 3 (q.F.map fPD),.tsl 3 41 7 (q.P.map pPD),.tsl 4 44 6 (q.A.map aPD)],.p .nils],_,call_frz (fc:=fc14) rfl rfl rfl rfl (r:=(.val (.tup [.agg [.tsl 1 81 2 (q.S.map sPD),.tsl 2 70 3 (q.F.map fPD),.tsl 3 41 7 (q.P.map pPD),.tsl 4 44 6 (q.A.map aPD)],.p .nils]),⟨[[.tsl 1 81 2 (q.S.map sPD),.tsl 2 70 3 (q.F.map fPD),.tsl 3 41 7 (q.P.map pPD),.tsl 4 44 6 (q.A.map aPD)],tabB,tabU,tabS,rM (rdS s q) a' 0 1 2 3],(rdS s q).tk⟩)) ?_ (seal0 rfl),rfl⟩
   simp only[HP,psE,htk] at h1 hL⊢
   simp[fc14,evKC,evK,put,Env.keep,entry,Opd.ev,splice,cutAt,binD,sub,finish,evRes,evRes1,mapO,D.cells,mkAgg,pures,ld_succ,ld_zero,st_zero,h1,tb0,tb1,tb2,tb3,tb4,hL,g2,g4,ldS7,ldS8,hlen,hl0,lenD_nils,Env.get]
  ·rw[if_neg hf]
   have hl0:0<q.f.length:=List.length_pos_iff.2 hf
   refine⟨.tup [z4,.tsl 0 34 2 q.f],_,call_frz (fc:=fc14) rfl rfl rfl rfl (r:=(.val (.tup [z4,.tsl 0 34 2 q.f]),⟨[[.p .nils,.p .nils,.p .nils,.p .nils],tabB,tabU,tabS,rM (rdS s q) a' 0 1 2 3],(rdS s q).tk⟩)) ?_ (seal0 rfl),rfl⟩
   simp only[HP,psE,htk,z4] at h1 hL⊢
   simp[fc14,evKC,evK,put,Env.keep,entry,Opd.ev,splice,cutAt,binD,sub,clsP,cls,clsR,isCl,isW,apartRW,offB,apartWW,clash,insOk,finish,evRes,evRes1,mapO,D.cells,mkAgg,pures,fillD,ld_succ,ld_zero,st_zero,oP,h1,tb0,tb1,tb2,tb3,tb4,hL,g2,g4,ldS7,hlen,hl0,lenD_nils,Env.get]
 ·rw[if_pos he]
  have h1:=open_bad_at hs he [.p .nils,.p .nils,.p .nils,.p .nils]
  refine⟨.tup [z4,.p (.slice 2 [dg (Lx.lex s).2.1 (Lx.lex s).2.2])],_,call_frz (fc:=fc14) rfl rfl rfl rfl (r:=(.val (.tup [z4,.fsl 34 2 [dg (Lx.lex s).2.1 (Lx.lex s).2.2]]),⟨[[.p .nils,.p .nils,.p .nils,.p .nils]],[]⟩)) ?_ (seal0 rfl),rfl⟩
  simp only[z4] at h1⊢
  simp[fc14,evKC,evK,put,Env.get,Env.keep,entry,Opd.ev,splice,cutAt,binD,sub,finish,evRes,evRes1,mapO,D.cells,mkAgg,pures,fillD,ld_zero,st_zero,oP,h1,lenD_fsl,tokbD]
theorem pa_eq(s:List UInt8)(hs:s.length≤140737488355328)(H:Hp):callD (call pg) 14 [.p (.str s)] H=some (.val (parseD s),H):=by
 obtain⟨d,h,h1,h2⟩:=pa_body s hs
 exact callD_pure h1 rfl rfl rfl h2
end Go.Proofs.YtalgjkpkkdljaaaGreatDoor
namespace Go.Proofs.YtalgjkpkkdljaaaGreatDoor
open Go.Vs
def eP(x:List UInt8×List (List UInt8×Nat)×Nd):List UInt8×List (List UInt8×Nat)×Nd:=(x.1,x.2.1,x.2.2.er)
def eA(x:List UInt8×Nd):List UInt8×Nd:=(x.1,x.2.er)
structure EQ (q q':Sp):Prop where
 S:q'.S=q.S
 F:q'.F=q.F
 P:q.P.map eP=q'.P.map eP
 A:q.A.map eA=q'.A.map eA
theorem EQ.pl{q q':Sp}(h:EQ q q'):q.P.length=q'.P.length:=by have:=congrArg List.length h.P;simpa using this
theorem EQ.al{q q':Sp}(h:EQ q q'):q.A.length=q'.A.length:=by have:=congrArg List.length h.A;simpa using this
theorem declF{c:Rd}{q:Sp}{a:Nat}{q':Sp}{a':Nat}(hw:declP c q a= .ok q' a'):q'.f=q.f:=by
 unfold declP at hw
 split at hw
 ·unfold sortDeclP at hw
  split at hw
  ·cases hw
  ·obtain⟨t,b,h1,hw⟩:=bind_inv hw
   obtain⟨u,b2,h2,hw⟩:=bind_inv hw
   cases hw;rfl
 ·split at hw
  ·unfold fieldDeclP at hw
   split at hw
   ·cases hw
   ·obtain⟨u,b,h1,hw⟩:=bind_inv hw
    obtain⟨t,b2,h2,hw⟩:=bind_inv hw
    obtain⟨u3,b3,h3,hw⟩:=bind_inv hw
    obtain⟨i,b4,h4,hw⟩:=bind_inv hw
    obtain⟨l,b5,h5,hw⟩:=bind_inv hw
    obtain⟨u6,b6,h6,hw⟩:=bind_inv hw
    cases hw;rfl
  ·split at hw
   ·unfold predDeclP at hw
    split at hw
    ·cases hw
    ·obtain⟨t,b,h1,hw⟩:=bind_inv hw
     obtain⟨u,b2,h2,hw⟩:=bind_inv hw
     obtain⟨l,b3,h3,hw⟩:=bind_inv hw
     obtain⟨n,b4,h4,hw⟩:=bind_inv hw
     cases hw;rfl
   ·split at hw
    ·unfold factDeclP at hw
     split at hw
     ·cases hw
     ·obtain⟨t,b,h1,hw⟩:=bind_inv hw
      obtain⟨n,b2,h2,hw⟩:=bind_inv hw
      cases hw;rfl
    ·exact absurd hw wrongP_bad
namespace Same2
variable {M : Same2}
theorem sort{S:List (List UInt8×Bool)}{i:Nat}(hb:M.b≤i):M.Sm EI (sortP M.c S i) (sortP M.c' S (i+M.δ)):=by
 refine of_in (a:=i) (fun y a' h=>by rw[(sort_lt h).1];omega) fun hi=>?_
 have h:=M.nmd hb hi
 have ht:=(M.tk hb hi).2
 unfold sortP
 rw[←h,←ht]
 split
 ·cases findS S (M.c.tok i).t S.length with
  |some k=>exact ok_ rfl (by omega)
  |none=>exact bad_ (M.pos hb) rfl
 ·exact wrong hb
def EV{α:Type}(x x':α):Prop:=x=x'
theorem sorts{S:List (List UInt8×Bool)}:∀(n:Nat) (l:List Nat) (i:Nat),M.b≤i→i≤M.c.ts.length→M.Sm EV (sortsP M.c S n l i) (sortsP M.c' S n l (i+M.δ))
 | 0,l,i,hb,hl=>ok_ rfl rfl
 |n+1,l,i,hb,hl=>by
  refine of_in (a:=i) (fun y a' h=>(sorts_le _ _ _ _ _ hl h).1) fun hi=>?_
  unfold sortsP
  rw[←M.acc hb hi]
  split
  ·rename_i hac
   have hlt:=accept_lt hac
   have e1:i+M.δ+1=i+1+M.δ:=by omega
   rw[e1]
   refine bind (sort (by omega)) (fun k b y a' h1 h=>?_) fun k b k' h1 hib hk=>?_
   ·obtain⟨w1,w2,_⟩:=sort_lt h1
    exact(sorts_le _ _ _ _ _ (by omega) h).1
   ·obtain⟨w1,w2,_⟩:=sort_lt h1
    have hk:k=k':=hk
    subst hk
    exact sorts n _ b (by omega) (by omega)
  ·exact ok_ rfl rfl
theorem params(hz:M.c.Sz){S:List (List UInt8×Bool)}:∀(m m':Nat) (l:List (List UInt8×Nat)) (i:Nat),M.b≤i→i≤M.c.ts.length→M.c.ts.length-i<m→M.c'.ts.length-(i+M.δ)<m'→M.Sm EV (paramsP M.c S m l i) (paramsP M.c' S m' l (i+M.δ))
 | 0,m',l,i,hb,hl,h1,h2=>by omega
 |m+1,0,l,i,hb,hl,h1,h2=>by omega
 |m+1,m'+1,l,i,hb,hl,h1,h2=>by
  refine of_in (a:=i) (fun y a' h=>(params_le _ _ _ _ _ hl h).1) fun hi=>?_
  unfold paramsP
  rw[←M.acc hb hi]
  split
  ·exact ok_ rfl (by omega)
  ·have hs:M.Sm ET (sepM M.c l i) (sepM M.c' l (i+M.δ)):=by
    unfold sepM
    split
    ·exact ok_ trivial rfl
    ·exact expect hb _
   refine bind hs (fun u b y a' h3 h=>?_) fun u b u' h3 hib _=>?_
   ·obtain⟨w1,w2⟩:=sepM_le h3 hl
    obtain⟨t,b2,h4,h⟩:=bind_inv h
    obtain⟨w3,w4,_⟩:=name_lt h4
    obtain⟨u3,b3,h5,h⟩:=bind_inv h
    obtain⟨w5,w6⟩:=expect_lt h5
    obtain⟨k,b4,h6,h⟩:=bind_inv h
    obtain⟨w7,w8,_⟩:=sort_lt h6
    have:=params_le _ _ _ _ _ (by omega) h
    omega
   obtain⟨w1,w2⟩:=sepM_le h3 hl
   refine bind (name (by omega)) (fun t b2 y a' h4 h=>?_) fun t b2 t' h4 hib2 ht=>?_
   ·obtain⟨w3,w4,_⟩:=name_lt h4
    obtain⟨u3,b3,h5,h⟩:=bind_inv h
    obtain⟨w5,w6⟩:=expect_lt h5
    obtain⟨k,b4,h6,h⟩:=bind_inv h
    obtain⟨w7,w8,_⟩:=sort_lt h6
    have:=params_le _ _ _ _ _ (by omega) h
    omega
   obtain⟨w3,w4,_⟩:=name_lt h4
   refine bind (expect (by omega) _) (fun u b3 y a' h5 h=>?_) fun u b3 u' h5 hib3 _=>?_
   ·obtain⟨w5,w6⟩:=expect_lt h5
    obtain⟨k,b4,h6,h⟩:=bind_inv h
    obtain⟨w7,w8,_⟩:=sort_lt h6
    have:=params_le _ _ _ _ _ (by omega) h
    omega
   obtain⟨w5,w6⟩:=expect_lt h5
   refine bind (sort (by omega)) (fun k b4 y a' h6 h=>?_) fun k b4 k' h6 hib4 hk=>?_
   ·obtain⟨w7,w8,_⟩:=sort_lt h6
    exact(params_le _ _ _ _ _ (by omega) h).1
   obtain⟨w7,w8,_⟩:=sort_lt h6
   have hk:k=k':=hk
   subst hk
   have ht2:t.t=t'.t:=ht.2.1
   rw[←ht2]
   have h0:=M.lt2 hz (show M.b≤b3 by omega) (M.dn _ _ hib4 (by omega)) w8
   exact params hz m m' _ b4 (by omega) (by omega) (by omega) (by omega)
theorem acNe{i:Nat}(hb:M.b≤i)(hi:M.I i)(s:List UInt8):acN M.c' (i+M.δ) s=acN M.c i s+M.δ:=by
 unfold acN
 rw[←M.acc hb hi]
 split<;>omega
variable (hz : M.c.Sz) (hz' : M.c'.Sz)
include hz hz'
theorem decl{q q':Sp}(hq:EQ q q'){i:Nat}(hb:M.b≤i)(hl:i<M.c.ts.length):M.Sm EQ (declP M.c q i) (declP M.c' q' (i+M.δ)):=by
 refine of_in (a:=i) (fun y a' h=>Nat.le_of_lt (decl_lt hz hl h).1) fun hi=>?_
 obtain⟨hk,ht⟩:=M.tk hb hi
 have hpp:=M.pos hb
 have e1:i+M.δ+1=i+1+M.δ:=by omega
 unfold declP
 rw[←ht]
 split
 ·
  unfold sortDeclP
  rw[hq.S,e1]
  split
  ·exact bad_ hpp rfl
  ·refine bind (name (by omega)) (fun t b y a' h1 h=>?_) fun t b t' h1 hib htt=>?_
   ·obtain⟨w1,w2,_⟩:=name_lt h1
    have w3:=acN_le (c:=M.c) b [111,114,100,101,114,101,100] (by omega)
    obtain⟨u,b2,h2,h⟩:=bind_inv h
    obtain⟨w5,w6⟩:=expect_lt h2
    cases h;omega
   obtain⟨w1,w2,_⟩:=name_lt h1
   have w3:=acN_le (c:=M.c) b [111,114,100,101,114,101,100] (by omega)
   have ht2:t.t=t'.t:=htt.2.1
   rw[M.acNe (show M.b≤b by omega) hib,←M.acc (show M.b≤b by omega) hib,←ht2]
   refine bind (expect (by omega) _) (fun u b2 y a' h2 h=>by cases h;exact Nat.le_refl _) fun u b2 u' h2 _ _=>?_
   exact ok_ ⟨by simp[],hq.F,hq.P,hq.A⟩ rfl
 ·split
  ·
   unfold fieldDeclP
   rw[hq.F,hq.S]
   split
   ·exact bad_ hpp rfl
   ·have w0:=acN_le (c:=M.c) i [118,97,114] (by omega)
    rw[M.acNe hb hi,←M.acc hb hi]
    refine bind (expect (by omega) _) (fun u b y a' h1 h=>?_) fun u b u' h1 hib _=>?_
    ·obtain⟨w1,w2⟩:=expect_lt h1
     obtain⟨t,b2,h2,h⟩:=bind_inv h
     obtain⟨w3,w4,_⟩:=name_lt h2
     obtain⟨u3,b3,h3,h⟩:=bind_inv h
     obtain⟨w5,w6⟩:=expect_lt h3
     obtain⟨k,b4,h4,h⟩:=bind_inv h
     obtain⟨w7,w8,_⟩:=sort_lt h4
     obtain⟨l,b5,h5,h⟩:=bind_inv h
     have w9:=sorts_le _ _ _ _ _ (by omega) h5
     obtain⟨u6,b6,h6,h⟩:=bind_inv h
     obtain⟨w10,w11⟩:=expect_lt h6
     cases h;omega
    obtain⟨w1,w2⟩:=expect_lt h1
    refine bind (name (by omega)) (fun t b2 y a' h2 h=>?_) fun t b2 t' h2 hib2 htt=>?_
    ·obtain⟨w3,w4,_⟩:=name_lt h2
     obtain⟨u3,b3,h3,h⟩:=bind_inv h
     obtain⟨w5,w6⟩:=expect_lt h3
     obtain⟨k,b4,h4,h⟩:=bind_inv h
     obtain⟨w7,w8,_⟩:=sort_lt h4
     obtain⟨l,b5,h5,h⟩:=bind_inv h
     have w9:=sorts_le _ _ _ _ _ (by omega) h5
     obtain⟨u6,b6,h6,h⟩:=bind_inv h
     obtain⟨w10,w11⟩:=expect_lt h6
     cases h;omega
    obtain⟨w3,w4,_⟩:=name_lt h2
    refine bind (expect (by omega) _) (fun u b3 y a' h3 h=>?_) fun u b3 u' h3 hib3 _=>?_
    ·obtain⟨w5,w6⟩:=expect_lt h3
     obtain⟨k,b4,h4,h⟩:=bind_inv h
     obtain⟨w7,w8,_⟩:=sort_lt h4
     obtain⟨l,b5,h5,h⟩:=bind_inv h
     have w9:=sorts_le _ _ _ _ _ (by omega) h5
     obtain⟨u6,b6,h6,h⟩:=bind_inv h
     obtain⟨w10,w11⟩:=expect_lt h6
     cases h;omega
    obtain⟨w5,w6⟩:=expect_lt h3
    refine bind (sort (by omega)) (fun k b4 y a' h4 h=>?_) fun k b4 k' h4 hib4 hkk=>?_
    ·obtain⟨w7,w8,_⟩:=sort_lt h4
     obtain⟨l,b5,h5,h⟩:=bind_inv h
     have w9:=sorts_le _ _ _ _ _ (by omega) h5
     obtain⟨u6,b6,h6,h⟩:=bind_inv h
     obtain⟨w10,w11⟩:=expect_lt h6
     cases h;omega
    obtain⟨w7,w8,_⟩:=sort_lt h4
    have hkk:k=k':=hkk
    subst hkk
    refine bind (sorts 2 [k] b4 (by omega) (by omega)) (fun l b5 y a' h5 h=>?_) fun l b5 l' h5 hib5 hll=>?_
    ·have w9:=sorts_le _ _ _ _ _ (by omega) h5
     obtain⟨u6,b6,h6,h⟩:=bind_inv h
     obtain⟨w10,w11⟩:=expect_lt h6
     cases h;omega
    have w9:=sorts_le _ _ _ _ _ (by omega) h5
    have hll:l=l':=hll
    subst hll
    have ht2:t.t=t'.t:=htt.2.1
    rw[←ht2]
    refine bind (expect (by omega) _) (fun u b6 y a' h6 h=>by cases h;exact Nat.le_refl _) fun u b6 u' h6 _ _=>?_
    exact ok_ ⟨rfl,by simp[],hq.P,hq.A⟩ rfl
  ·split
   ·
    unfold predDeclP
    rw[←hq.pl,hq.S,e1]
    split
    ·exact bad_ hpp rfl
    ·refine bind (name (by omega)) (fun t b y a' h1 h=>?_) fun t b t' h1 hib htt=>?_
     ·obtain⟨w1,w2,_⟩:=name_lt h1
      obtain⟨u,b2,h2,h⟩:=bind_inv h
      obtain⟨w3,w4⟩:=expect_lt h2
      obtain⟨l,b3,h3,h⟩:=bind_inv h
      have w5:=params_le _ _ _ _ _ (by omega) h3
      obtain⟨n,b4,h4,h⟩:=bind_inv h
      have w6:=block_lt hz h4
      cases h;omega
     obtain⟨w1,w2,_⟩:=name_lt h1
     refine bind (expect (by omega) _) (fun u b2 y a' h2 h=>?_) fun u b2 u' h2 hib2 _=>?_
     ·obtain⟨w3,w4⟩:=expect_lt h2
      obtain⟨l,b3,h3,h⟩:=bind_inv h
      have w5:=params_le _ _ _ _ _ (by omega) h3
      obtain⟨n,b4,h4,h⟩:=bind_inv h
      have w6:=block_lt hz h4
      cases h;omega
     obtain⟨w3,w4⟩:=expect_lt h2
     have h0:=M.lt2 hz (show M.b≤b by omega) (M.dn _ _ hib2 (by omega)) w4
     refine bind (params hz (M.c.ts.length+1) (M.c'.ts.length+1) [] b2 (by omega) (by omega) (by omega) (by omega)) (fun l b3 y a' h3 h=>?_) fun l b3 l' h3 hib3 hll=>?_
     ·have w5:=params_le _ _ _ _ _ (by omega) h3
      obtain⟨n,b4,h4,h⟩:=bind_inv h
      have w6:=block_lt hz h4
      cases h;omega
     have w5:=params_le _ _ _ _ _ (by omega) h3
     have hll:l=l':=hll
     subst hll
     have ht2:t.t=t'.t:=htt.2.1
     rw[←ht2]
     refine bind (block hz hz' (by omega) (by omega)) (fun n b4 y a' h4 h=>by cases h;exact Nat.le_refl _) fun n b4 n' h4 _ hn=>?_
     have hn:n.er=n'.er:=hn
     exact ok_ ⟨rfl,hq.F,by simp[hq.P,eP,hn],hq.A⟩ rfl
   ·split
    ·
     unfold factDeclP
     rw[←hq.al,e1]
     split
     ·exact bad_ hpp rfl
     ·refine bind (name (by omega)) (fun t b y a' h1 h=>?_) fun t b t' h1 hib htt=>?_
      ·obtain⟨w1,w2,_⟩:=name_lt h1
       obtain⟨n,b4,h4,h⟩:=bind_inv h
       have w6:=block_lt hz h4
       cases h;omega
      obtain⟨w1,w2,_⟩:=name_lt h1
      have ht2:t.t=t'.t:=htt.2.1
      rw[←ht2]
      refine bind (block hz hz' (by omega) (by omega)) (fun n b4 y a' h4 h=>by cases h;exact Nat.le_refl _) fun n b4 n' h4 _ hn=>?_
      have hn:n.er=n'.er:=hn
      exact ok_ ⟨hq.S,hq.F,hq.P,by simp[hq.A,eA,hn]⟩ rfl
    ·exact wrong hb
end Same2
end Go.Proofs.YtalgjkpkkdljaaaGreatDoor
namespace Go.Proofs.YtalgjkpkkdljaaaGreatDoor
open Go.Vs
def paT(s:List UInt8):List UInt8:=40::(s++[41])
def signW(op:Int):List UInt8:=match lookO bopT op with
 |some e=>e.tok.2
 |none=>[]
def wordW(op:Int):List UInt8:=match lookO popT op with
 |some e=>e.tok.2
 |none=>(constW op).getD []
def joinS(sep:List UInt8):List (List UInt8)→List UInt8
 |[]=>[]
 |[x]=>x
 |x::y::r=>x++(sep++joinS sep (y::r))
def bndS(nm k0 k1:List UInt8):List UInt8:=nm++([58,32]++(paT k0++([32,124,32]++paT k1)))
def txOf(op:Int)(nm:List UInt8)(n:Int)(ks:List (List UInt8)):List UInt8:=
 if op=1 then nm
 else if op=2 then[110,111,110,101,91]++(Lib.itoa n++[93])
 else if op=20 then Lib.itoa n
 else if op=5 then paT (ks.getD 0 [])++[39]
 else if op=15 then[123]++(bndS nm (ks.getD 0 []) (ks.getD 1 [])++[125])
 else if op=45 then[97,108,108,32]++bndS nm (ks.getD 0 []) (ks.getD 1 [])
 else if op=46 then[115,111,109,101,32]++bndS nm (ks.getD 0 []) (ks.getD 1 [])
 else if op=47 then nm++([91]++(joinS [44,32] (ks.map paT)++[93]))
 else match ks with
  |[]=>wordW op
  |[k]=>wordW op++([32]++paT k)
  |k::k'::_=>paT k++([32]++(signW op++([32]++paT k')))
mutual
def tx:Nd→List UInt8
 | .mk op nm n _ ks _=>txOf op nm n (txL ks)
def txL:List Nd→List (List UInt8)
 |[]=>[]
 |k::ks=>tx k::txL ks
end
theorem kid_at{a:Nd}{k:Nat}{x:Nd}(h:a.ks[k]? =some x):iaddrD none 5 (.p a.kidsP) (k:Int)=some (.ro x.cells 0):=by
 obtain⟨hk,hx⟩:=List.getElem?_eq_some_iff.1 h
 rw[ia_kids hk,hx]
theorem ld_kid{G:Nat→Option (List PD)}{H:Hp}(x:Nd):loadD G H (some 5) (.ro x.cells 0)=some (.p x.pd):=load_nd x
theorem bI_lt(x y:Int):binD .lss (.p (.int .i64 x)) (.p (.int .i64 y))=some (.p (.bool (decide (x<y)))):=rfl
theorem bI_add(x y:Int):binD .add (.p (.int .i64 x)) (.p (.int .i64 y))=some (.p (.int .i64 (IntKind.i64.wrap (x+y)))):=rfl
def T0.kt(t:Lx.T0):KT:=(t.k,t.t)
def LxOk(B:List UInt8→Prop)(s:List UInt8)(l:List KT):Prop:=∀n r,B r→∃T:List Lx.T0,T.map T0.kt=l∧Lx.lexR (l.length+n) (s++r)=(T++(Lx.lexR n r).1,(Lx.lexR n r).2)
def NW(r:List UInt8):Prop:=∀c,r.head?=some c→Lx.wrB c=false
theorem LxOk.seq{B1 B2:List UInt8→Prop}{s1 s2:List UInt8}{l1 l2:List KT}(h1:LxOk B1 s1 l1)(h2:LxOk B2 s2 l2)(hb:∀r,B2 r→B1 (s2++r)):LxOk B2 (s1++s2) (l1++l2):=by
 intro n r hr
 obtain⟨T2,e2,f2⟩:=h2 n r hr
 obtain⟨T1,e1,f1⟩:=h1 (l2.length+n) (s2++r) (hb r hr)
 refine⟨T1++T2,by rw[List.map_append,e1,e2],?_⟩
 rw[List.length_append,List.append_assoc,Nat.add_assoc,f1,f2,List.append_assoc]
theorem tw_app{w:UInt8→Bool}:∀{s r:List UInt8},(∀b∈s,w b=true)→(∀c,r.head?=some c→w c=false)→(s++r).takeWhile w=s∧(s++r).dropWhile w=r
 |[],r,_,hr=>by
  cases r with
  |nil=>exact⟨rfl,rfl⟩
  |cons c t=>
   have:=hr c rfl
   simp[this]
 |b::s,r,hs,hr=>by
  have hb:=hs b (by simp)
  have:=tw_app (s:=s) (r:=r) (fun x hx=>hs x (by simp[hx])) hr
  simp only[List.cons_append,List.takeWhile_cons,List.dropWhile_cons,hb,if_true,this,and_self]
theorem tokS_pos{c:UInt8}{t:List UInt8}(h:(Lx.tokS (c::t)).2.2=true):1≤(Lx.tokS (c::t)).2.1.length:=by
 unfold Lx.tokS at h⊢
 dsimp only at h⊢
 split
 ·rename_i hl
  have hw:Lx.wrB c=true:=by unfold Lx.wrB;rw[hl];rfl
  rw[List.takeWhile_cons,if_pos hw]
  simp
 ·split
  ·rename_i hd
   rw[List.takeWhile_cons,if_pos hd]
   simp
  ·rename_i h1 h2
   rw[if_neg h1,if_neg h2] at h
   have :Lx.firstOf (c::t) syms≠[]:=by simpa using h
   exact List.length_pos_iff.2 this
def smS(m n:Nd)(k:Nat):St:=⟨[(2,.p (.bool false)),(3,.box 0 0),(4,.box 1 0),(7,.p (.int .i64 k))],⟨[m.cells.map .p,n.cells.map .p],[]⟩⟩
theorem sm_end(m n:Nd):∃env,evS (call pg) pg.G iterX fc29_b0 (smS m n m.ks.length)=some (.exit 0,⟨env,⟨[m.cells.map .p,n.cells.map .p],[]⟩⟩):=by
 have hlk:=len_kids m
 apply Exists.intro
 simp only[smS,Nd.cells,List.map_cons,List.map_nil]
 conv=>lhs;simp[fc29_b0,evKC,evK,evGuard,put,Env.get,Env.keep,entry,Opd.ev,splice,cutAt,indexD,D.asInt?,D.asNat?,u8,unD,boundsD,sliceD,sub,minmaxD,eqvL,PD.eqv,clsP,cls,clsR,isCl,isW,apartRW,offB,apartWW,clash,insOk,finish,evRes,evRes1,mapO,D.cells,PD.cells,D.refsL,D.refs,D.toksL,D.toks,mkAgg,pures,fillD,fillE,appendD,srcD,D.elems?,D.asPD,Int.toNat_natCast,srcH,srcBH,eqD,D.asPDL,isMapC,reach,boxRefs,boxToks,ins,Vs.nodupB,idx,D.renL,D.ren,back,firstN,putAll,Res.ren,locD,below,Out.ren,List.map,ld_succ,ld_zero,st_succ,st_zero,oI,oS,oN,oP,oB,oL,oT,oF,oE,ldr0,ldr1,ldr2,ldr3,ldr4,ldr5,ldr6,str1',str3',bI_lt,hlk]
theorem sm_step{m n:Nd}{k:Nat}{x y:Nd}(hx:m.ks[k]? =some x)(hy:n.ks[k]? =some y)(hlen:m.ks.length≤1000000000)(hc:∀H,callD (call pg) 29 [.p x.pd,.p y.pd,.p (.bool false)] H=some (.val (.p (.bool true)),H)):
    evS (call pg) pg.G iterX fc29_b0 (smS m n k)=some (.norm,smS m n (k+1)):=by
 have hlk:=len_kids m
 have hk:=(List.getElem?_eq_some_iff.1 hx).1
 have hlt:(k:Int)<(m.ks.length:Int):=by omega
 have hw:=inc64 (k:=k) (by omega)
 have i0:=kid_at hx
 have i1:=kid_at hy
 have l0:=fun G H=>ld_kid (G:=G) (H:=H) x
 have l1:=fun G H=>ld_kid (G:=G) (H:=H) y
 have ek:((k+1 :Nat):Int)=(k:Int)+1:=rfl
 simp only[smS,Nd.cells,List.map_cons,List.map_nil,ek]
 simp[fc29_b0,evKC,evK,put,Env.get,Env.keep,Opd.ev,cutAt,D.asInt?,unD,clsP,cls,clsR,isCl,isW,apartRW,offB,apartWW,clash,insOk,mapO,D.refsL,D.refs,D.toksL,D.toks,D.renL,D.ren,locD,below,Out.ren,List.map,ld_succ,ld_zero,bI_lt,bI_add,hlk,hlt,i0,i1,l0,l1,hc,hw]
theorem sm_loop{m n:Nd}(he:m.ks.map Nd.er=n.ks.map Nd.er)(hlen:m.ks.length≤1000000000)(ih:∀x∈m.ks,∀(y:Nd),x.er=y.er→∀H,callD (call pg) 29 [.p x.pd,.p y.pd,.p (.bool false)] H=some (.val (.p (.bool true)),H)):∀(j k:Nat),m.ks.length-k≤j→k≤m.ks.length→
    ∃env,loopK (call pg) pg.G [2,3,4,7] fc29_b0 (smS m n k)=some (.exit 0,⟨env,⟨[m.cells.map .p,n.cells.map .p],[]⟩⟩):=by
 intro j
 induction j with
 |zero=>
  intro k hn hk
  have :k=m.ks.length:=by omega
  subst this
  obtain⟨env,e⟩:=sm_end m n
  exact⟨env,loopK_out e (by simp)⟩
 |succ j IH=>
  intro k hn hk
  by_cases hq:k=m.ks.length
  ·subst hq
   obtain⟨env,e⟩:=sm_end m n
   exact⟨env,loopK_out e (by simp)⟩
  ·have hlt:k<m.ks.length:=by omega
   have hln:m.ks.length=n.ks.length:=by have:=congrArg List.length he;simpa using this
   have hlt':k<n.ks.length:=by omega
   have hxy:(m.ks[k]).er=(n.ks[k]).er:=by
    have:=congrArg (fun l=>l[k]?) he
    simpa[hlt,hlt'] using this
   have hs:=sm_step (List.getElem?_eq_getElem hlt) (List.getElem?_eq_getElem hlt') hlen (ih _ (List.getElem_mem hlt) _ hxy)
   obtain⟨env,e⟩:=IH (k+1) (by omega) (by omega)
   exact⟨env,by rw[←e];exact loopK_norm hs⟩
theorem same_er:∀(s:Nat) (m n:Nd),m.size≤s→s≤1000000000→m.er=n.er→∀H,callD (call pg) 29 [.p m.pd,.p n.pd,.p (.bool false)] H=some (.val (.p (.bool true)),H):=by
 intro s
 induction s with
 |zero=>
  intro m n h
  have :1≤m.size:=by cases m;simp only[Nd.size];omega
  omega
 |succ s ih=>
  intro m n hs hb he H
  obtain⟨h1,h2,h3,h4⟩:=er_iff.1 he
  have hsz:m.size=1+Nd.sizeL m.ks:=by cases m;simp only[Nd.size,Nd.ks]
  have hmem:∀{ks:List Nd} {x:Nd},x∈ks→x.size≤Nd.sizeL ks:=fun {ks x} hx=>by
   induction ks with
   |nil=>cases hx
   |cons k ks ih=>
    simp only[Nd.sizeL]
    rcases List.mem_cons.1 hx with q |q
    ·rw[q];omega
    ·have:=ih q;omega
  have hlen:m.ks.length≤1000000000:=by
   have :∀ks:List Nd,ks.length≤Nd.sizeL ks:=fun ks=>by
    induction ks with
    |nil=>exact Nat.le_refl _
    |cons k ks ih=>
     have :1≤k.size:=by cases k;simp only[Nd.size];omega
     simp only[Nd.sizeL,List.length_cons];omega
   have:=this m.ks
   omega
  have hln:m.ks.length=n.ks.length:=by have:=congrArg List.length h4;simpa using this
  obtain⟨env,e⟩:=sm_loop h4 hlen (fun x hx y q=>ih x y (by have:=hmem hx;omega) (by omega) q) m.ks.length 0 (by omega) (by omega)
  refine callD_any (d:=.p (.bool true)) ⟨⟨[m.cells.map .p,n.cells.map .p],[]⟩,call_body (fc:=fc29) rfl rfl rfl rfl ?_⟩ rfl rfl rfl rfl H
  have hlm:=len_kids m
  have hlk:=len_kids n
  have k1:=pone_kids m
  have k2:=pone_kids n
  simp only[smS,Int.natCast_zero] at e
  rw[pd_cells m,pd_cells n]
  simp only[Nd.cells,List.map_cons,List.map_nil] at e⊢
  rw[h1,h2,h3] at e⊢
  simp[fc29,evKC,evK,evGuard,put,Env.get,Env.keep,entry,Opd.ev,cutAt,binD,strBin,finish,evRes,evRes1,D.cells,ld_succ,ld_zero,oP,hlm,hlk,hln,k1,k2,e]
end Go.Proofs.YtalgjkpkkdljaaaGreatDoor
namespace Go.Proofs.YtalgjkpkkdljaaaGreatDoor.Pj
open Go.Vs
structure Ent where
 k:Int
 s:List UInt8
 lv:Int
 a:Int
 b:Int
def Ent.pd(e:Ent):PD:=.agg [.str e.s,.int .i64 e.lv,.int .i64 e.a,.int .i64 e.b]
def look:List Ent→Int→Option Ent
 |[],_=>none
 |e::t,k=>if e.k=k then some e else look t k
def zEnt:PD:=.agg [.str [],.int .i64 0,.int .i64 0,.int .i64 0]
def getT(t:List Ent)(k:Int):D:=match look t k with
 |some e=>.tup [.p e.pd,.p (.bool true)]
 |none=>.tup [.p zEnt,.p (.bool false)]
def binT:List Ent:=[⟨6,[32,43,32],8,8,9⟩,⟨7,[32,38,32],10,10,11⟩,⟨8,[32,45,32],8,8,9⟩,⟨9,[46],12,12,13⟩,⟨10,[32,45,62,32],11,11,12⟩,⟨14,[32,43,43,32],9,9,10⟩,⟨22,[32,43,32],8,8,9⟩,⟨23,[32,45,32],8,8,9⟩,⟨32,[32,105,110,32],7,8,8⟩,⟨33,[32,61,32],7,8,8⟩,⟨38,[32,61,32],7,8,8⟩,⟨39,[32,60,32],7,8,8⟩,⟨41,[32,38,38,32],4,4,5⟩,⟨42,[32,124,124,32],3,3,4⟩,⟨43,[32,61,62,32],2,3,2⟩,⟨44,[32,60,61,62,32],1,1,2⟩,⟨51,[32,117,110,116,105,108,32],5,6,5⟩]
def preT:List Ent:=[⟨11,[126],13,13,0⟩,⟨12,[94],13,13,0⟩,⟨13,[42],13,13,0⟩,⟨21,[35],12,12,0⟩,⟨34,[115,111,109,101,32],7,8,0⟩,⟨35,[110,111,32],7,8,0⟩,⟨36,[111,110,101,32],7,8,0⟩,⟨37,[108,111,110,101,32],7,8,0⟩,⟨40,[110,111,116,32],6,6,0⟩,⟨48,[97,108,119,97,121,115,32],6,6,0⟩,⟨49,[101,118,101,110,116,117,97,108,108,121,32],6,6,0⟩,⟨50,[97,102,116,101,114,32],6,6,0⟩]
def lvl(op:Int):Int:=match look binT op with
 |some e=>e.lv
 |none=>match look preT op with
  |some e=>e.lv
  |none=>if op=5 then 14 else 15
abbrev Kt:=Int×(Bool→List UInt8)
def oprK(p:Kt)(need:Int)(fin:Bool):List UInt8:=
 if(decide (need≤lvl p.1)&&(fin|| !(p.1==45||p.1==46)))=true then p.2 fin else 40::(p.2 true++[41])
def zK:Kt:=(0,fun _=>[])
def kK(kids:List Kt)(i:Nat):Kt:=(kids[i]?).getD zK
def joinL(sep:List UInt8):List (List UInt8)→List UInt8
 |[]=>[]
 |[x]=>x
 |x::y::r=>x++(sep++joinL sep (y::r))
def bndT(nm:List UInt8)(kids:List Kt):List UInt8:=nm++([58,32]++(oprK (kK kids 0) 8 true++([32,124,32]++(kK kids 1).2 true)))
def constT(op:Int):List UInt8:=
 if op=3 then[117,110,105,118] else if op=4 then[105,100,101,110] else if op=30 then[116,114,117,101] else if op=31 then[102,97,108,115,101] else[]
def txtOf(op:Int)(nm:List UInt8)(n:Int)(kids:List Kt)(fin:Bool):List UInt8:=
 match look binT op with
 |some e=>oprK (kK kids 0) e.a false++(e.s++oprK (kK kids 1) e.b fin)
 |none=>match look preT op with
  |some e=>e.s++oprK (kK kids 0) e.a fin
  |none=>
   if op=1 then nm
   else if op=2 then[110,111,110,101]++(if n=1 then[] else[91]++(Lib.itoa n++[93]))
   else if op=20 then Lib.itoa n
   else if op=5 then oprK (kK kids 0) 14 false++[39]
   else if op=45 then[97,108,108,32]++bndT nm kids
   else if op=46 then[115,111,109,101,32]++bndT nm kids
   else if op=15 then[123]++(bndT nm kids++[125])
   else if op=47 then nm++([91]++(joinL [44,32] (kids.map fun k=>oprK k 8 true)++[93]))
   else constT op
mutual
def txt:Nd→Bool→List UInt8
 | .mk op nm n _ ks _=>txtOf op nm n (txtL ks)
def txtL:List Nd→List Kt
 |[]=>[]
 |k::ks=>(k.op,txt k)::txtL ks
end
end Go.Proofs.YtalgjkpkkdljaaaGreatDoor.Pj
namespace Go.Proofs.YtalgjkpkkdljaaaGreatDoor
open Go.Proofs.YtalgjkpkkdljaaaGreatDoor.Pj
def Nd.kt(a:Nd):Kt:=(a.op,txt a)
end Go.Proofs.YtalgjkpkkdljaaaGreatDoor
namespace Go.Proofs.YtalgjkpkkdljaaaGreatDoor.Pj
open Go.Vs
section
variable {a : Nd} (hl0 : look binT a.op = none) (hl : look preT a.op = none) (fin f : Bool) (l : List UInt8) (hb : l.length + (txt a fin).length ≤ 100000000000000)
include hl0 hl hb
end
end Go.Proofs.YtalgjkpkkdljaaaGreatDoor.Pj
namespace Go.Proofs.YtalgjkpkkdljaaaGreatDoor.Pj
open Go.Vs
end Go.Proofs.YtalgjkpkkdljaaaGreatDoor.Pj
namespace Go.Proofs.YtalgjkpkkdljaaaGreatDoor
open Go.Proofs.YtalgjkpkkdljaaaGreatDoor.Pj
mutual
def Nd.i64s:Nd→Prop
 | .mk _ _ n _ ks _=>i64 n∧Nd.i64sL ks
def Nd.i64sL:List Nd→Prop
 |[]=>True
 |k::ks=>k.i64s∧Nd.i64sL ks
end
end Go.Proofs.YtalgjkpkkdljaaaGreatDoor
namespace Go.Proofs.YtalgjkpkkdljaaaGreatDoor.Pj
open Go.Vs
end Go.Proofs.YtalgjkpkkdljaaaGreatDoor.Pj
namespace Go.Proofs.YtalgjkpkkdljaaaGreatDoor
open Go.Vs
def pc(s:List UInt8):Nat:=s.count 40
abbrev PT(x:Nd)(f:Bool):Nat:=pc (Pj.txt x f)
structure Rf (x:Nd):Prop where
 lo:PT x true≤PT x false
 hi:PT x false≤PT x true+1
 nf:knd x.op≠3→PT x false=PT x true
theorem Rf.same{x:Nd}(h:PT x false=PT x true):Rf x:=⟨by omega,by omega,fun _=>h⟩
def isLp(x:Tok):Bool:=x.t==[40]
def lp(c:Rd)(i:Nat):Nat:=(c.ts.drop i).countP isLp
def Bin.na(b:Bin):Nat:=if b.r then b.lv+1 else if b.lv=7 then 8 else b.lv
structure BOk (b:Bin) (op:Int) (e:BE):Prop where
 look:lookO bopT op=some e
 lv:e.lv=b.lv
 nx:e.b=b.nx
 na:e.a=b.na
 k3:e.kd=3→e.lv≤5
 k7:e.kd≠3→7≤e.lv
 k13:13≤e.b→e.kd=1
 o3:knd op=3→e.lv≤7
 pc0:pc e.tok.2=0
 o8:knd op≠3→8≤e.lv
 kd:e.kd=1∨e.kd=2∨e.kd=3
structure POk (p:Pre) (e:PE):Prop where
 look:lookO popT p.op=some e
 a:e.a=p.lv
 pc0:pc e.tok.2=0
 k8:8≤e.a→e.kd=1
 row:∀(s:List UInt8) (b:Bin),lookT binT s=some b→b.lv<p.lv→b.lv≠7→b.na≤e.lv
 nf:knd p.op≠3→12≤e.lv
 f7:knd p.op=3→e.lv≤7
 n7:p.lv≠7
 p1:1≤p.lv
 p13:p.lv≤13
 l12:e.lv=12→knd p.op=2
 l6:6≤e.lv
 kd:e.kd=1∨e.kd=3
def Qn(c:Rd)(j:Nat):Prop:=∃b,lookT binT (c.tok j).t=some b∧(c.tok j).k≠0∧b.lv≠7
def badK(lev:Nat)(op:Int):Prop:=(8≤lev∧knd op=3)∨(13≤lev∧knd op=2)
def Dn(c:Rd)(lev j:Nat):Prop:=∀b,lookT binT (c.tok j).t=some b→(c.tok j).k≠0→b.lv<lev∨b.lv=7
def An(c:Rd)(lev i j:Nat)(x:Nd):Prop:=
 lp c j+PT x true+1≤lp c i∨(lp c j+PT x true≤lp c i∧(Qn c j→lp c j+PT x false≤lp c i∧x.op≠45∧x.op≠46)∧(lev≤lvN x.op∨badK lev x.op))
structure Pg (c:Rd) (lev i j:Nat) (x:Nd):Prop where
 rf:Rf x
 an:An c lev i j x
 dn:Dn c lev j
def Nm0(c:Rd):Prop:=∀i,namedB (c.tok i)=true→pc (c.tok i).t=0
def Deep(c:Rd)(prs:Nat→Nat→PR Nd):Prop:=∀lev a y a',1≤lev→lev≤13→lev≠7→prs lev a= .ok y a'→Pg c lev a a' y
section
variable {c : Rd} {prs : Nat → Nat → PR Nd} (hN : Nm0 c) (hD : Deep c prs)
include hD
end
end Go.Proofs.YtalgjkpkkdljaaaGreatDoor
namespace Go.Proofs.YtalgjkpkkdljaaaGreatDoor
open Go.Vs
def Nx(c:Rd)(j:Nat)(cmp:Bool)(op:Int):Prop:=
 ∀b,lookT binT (c.tok j).t=some b→(c.tok j).k≠0→(b.lv=7→cmp=false)→(7≤b.lv→knd op≠3)→b.na≤lvN op
structure Sx (c:Rd) (lev i j:Nat) (cmp:Bool) (x:Nd):Prop where
 rf:Rf x
 an:lp c j+PT x true+1≤lp c i∨(lp c j+PT x true≤lp c i∧(Qn c j→lp c j+PT x false≤lp c i∧x.op≠45∧x.op≠46)∧(lev≤lvN x.op∨badK lev x.op)∧Nx c j cmp x.op)
theorem Sx.a{c:Rd}{lev i j:Nat}{cmp:Bool}{x:Nd}(h:Sx c lev i j cmp x):An c lev i j x:=by
 rcases h.an with q |⟨q1,q2,q3,_⟩
 ·exact .inl q
 ·exact .inr ⟨q1,q2,q3⟩
section
variable {c : Rd} {prs : Nat → Nat → PR Nd} (hN : Nm0 c) (hD : Deep c prs)
include hN hD
end
end Go.Proofs.YtalgjkpkkdljaaaGreatDoor
namespace Go.Proofs.YtalgjkpkkdljaaaGreatDoor
open Go.Vs
mutual
theorem meas_size:∀(a:Nd) (d l c:Int),meas a d l=some c→c=a.size∧c≤l
 | .mk op nm n _ ks _,d,l,c,h=>by
  simp only[meas] at h
  split at h
  ·cases h
  ·rename_i hn
   have:=measL_size ks d l 1 c h (by omega)
   simp only[Nd.size]
   omega
theorem measL_size:∀(ks:List Nd) (d l cnt c:Int),measL ks d l cnt=some c→cnt≤l→c=cnt+Nd.sizeL ks∧c≤l
 |[],d,l,cnt,c,h,hl=>by
  simp only[measL,Option.some.injEq] at h
  simp only[Nd.sizeL]
  omega
 |k::ks,d,l,cnt,c,h,hl=>by
  simp only[measL] at h
  split at h
  ·rename_i c1 h1
   have g1:=meas_size k _ _ _ h1
   have g2:=measL_size ks d l (cnt+c1) c h (by omega)
   simp only[Nd.sizeL]
   omega
  ·cases h
end
theorem valid_size{a:Nd}(h:validN a=true):a.size≤400:=by
 unfold validN at h
 obtain⟨c,hc⟩:=Option.isSome_iff_exists.1 h
 have:=meas_size a 1 400 c hc
 omega
theorem pf_valid{s:List UInt8}{n:Nd}(h:pf s=(n,.nils)):validN n=true∧knd n.op=3:=by
 unfold pf at h
 split at h
 ·cases h
 ·split at h
  ·rename_i m a hm
   cases h
   unfold formulaP at hm
   obtain⟨x,b,h1,h2⟩:=bind_inv hm
   have hx:n=x:=by
    split at h2
    ·exact absurd h2 wrongP_bad
    ·cases h2;rfl
   rw[hx]
   unfold wholeP at h1
   obtain⟨y,b',h3,h4⟩:=bind_inv h1
   split at h4
   ·cases h4
   ·rename_i hk
    split at h4
    ·cases h4
    ·rename_i hv
     cases h4
     refine⟨?_,?_⟩
     ·cases q:validN x with
      |true=>rfl
      |false=>exact absurd q hv
     ·cases q:decide (knd x.op=3) with
      |true=>exact of_decide_eq_true q
      |false=>exact absurd (of_decide_eq_false q) hk
  ·cases h
def bl:List UInt8→Int
 |[]=>0
 |b::s=>(if b=40 then 1 else if b=41 then -1 else 0)+bl s
theorem bl_app:∀s t:List UInt8,bl (s++t)=bl s+bl t
 |[],t=>by simp[bl]
 |b::s,t=>by simp only[List.cons_append,bl,bl_app s t];omega
structure Bl (s:List UInt8):Prop where
 z:bl s=0
 d:∀i,bl (s.drop i)≤0
theorem Bl.app{s t:List UInt8}(h:Bl s)(k:Bl t):Bl (s++t):=by
 refine⟨by rw[bl_app,h.z,k.z];rfl,fun i=>?_⟩
 rw[List.drop_append,bl_app]
 have:=h.d i
 have:=k.d (i-s.length)
 omega
def noP(s:List UInt8):Bool:=s.all fun b=>b !=40&&b !=41
theorem bl_no:∀{s:List UInt8},noP s=true→bl s=0
 |[],_=>rfl
 |b::s,h=>by
  unfold noP at h
  simp only[List.all_cons,Bool.and_eq_true,bne_iff_ne] at h
  simp only[bl]
  rw[if_neg h.1.1,if_neg h.1.2,bl_no h.2]
  rfl
theorem Bl.no{s:List UInt8}(h:noP s=true):Bl s:=by
 refine⟨bl_no h,fun i=>?_⟩
 have :noP (s.drop i)=true:=by
  unfold noP at h⊢
  rw[List.all_eq_true] at h⊢
  exact fun x hx=>h x (List.mem_of_mem_drop hx)
 rw[bl_no this]
 exact Int.le_refl _
def stp(o:Int)(b:UInt8):Int:=(if b=40 then o+1 else o)-(if b=41 then 1 else 0)
def cl:Int→List UInt8→Option Nat
 |_,[]=>none
 |o,b::r=>if stp o b=0 then some 0 else(cl (stp o b) r).map (· +1)
theorem stp_bl(o:Int)(b:UInt8)(s:List UInt8):stp o b+bl s=o+bl (b::s):=by
 simp only[stp,bl]
 by_cases h:b=40
 ·subst h;simp;omega
 ·by_cases h':b=41
  ·subst h';simp;omega
  ·simp[h,h']
theorem cl_some:∀(r:List UInt8) (o:Int),0<o→o+bl r≤0→∃k,cl o r=some k
 |[],o,h,h'=>by simp only[bl] at h';omega
 |b::r,o,h,h'=>by
  have hs:=stp_bl o b r
  simp only[cl]
  split
  ·exact⟨0,rfl⟩
  ·rename_i h0
   have :0<stp o b:=by
    unfold stp at h0⊢
    split at h0<;>split at h0<;>split<;>omega
   obtain⟨k,hk⟩:=cl_some r (stp o b) this (by omega)
   exact⟨k+1,by rw[hk];rfl⟩
theorem cl_at:∀(r:List UInt8) (o:Int) (k:Nat),0≤o→cl o r=some k→k<r.length∧(0<o→r[k]? =some 41)
 |b::r,o,k,h0,h=>by
  simp only[cl] at h
  split at h
  ·rename_i hz
   cases h
   refine⟨by simp,fun ho=>?_⟩
   have :b=41:=by
    unfold stp at hz
    by_cases q:b=41
    ·exact q
    ·rw[if_neg q] at hz
     split at hz<;>omega
   rw[this];rfl
  ·rename_i hz
   cases hc:cl (stp o b) r with
   |none=>rw[hc] at h;cases h
   |some m=>
    rw[hc] at h
    cases h
    by_cases ho:0<o
    ·have hp:0<stp o b:=by
      unfold stp at hz⊢
      split at hz<;>split at hz<;>split<;>omega
     have ih:=cl_at r (stp o b) m (by omega) hc
     exact⟨by simp only[List.length_cons];omega,fun _=>by simpa using ih.2 hp⟩
    ·by_cases hn:0≤stp o b
     ·have ih:=cl_at r (stp o b) m hn hc
      exact⟨by simp only[List.length_cons];omega,fun q=>absurd q ho⟩
     ·refine⟨?_,fun q=>absurd q ho⟩
      have :∀(r:List UInt8) (o:Int) (k:Nat),cl o r=some k→k<r.length:=by
       intro r
       induction r with
       |nil=>intro o k h;cases h
       |cons b r ih=>
        intro o k h
        simp only[cl] at h
        split at h
        ·cases h;simp
        ·cases hc:cl (stp o b) r with
         |none=>rw[hc] at h;cases h
         |some m=>
          rw[hc] at h;cases h
          have:=ih _ _ hc
          simp only[List.length_cons];omega
      have:=this r _ _ hc
      simp only[List.length_cons];omega
theorem closes{s:List UInt8}(h:Bl s){i:Nat}(hi:s[i]? =some 40):∃k,cl 0 (s.drop i)=some k∧1≤k∧i+k<s.length∧s[i+k]? =some 41:=by
 have hl:i<s.length:=(List.getElem?_eq_some_iff.1 hi).1
 have hg:s[i]=40:=(List.getElem?_eq_some_iff.1 hi).2
 have hd:s.drop i=40::s.drop (i+1):=by rw[List.drop_eq_getElem_cons hl,hg]
 have hb:=h.d i
 rw[hd] at hb
 have hs:stp 0 40=1:=by decide
 have hc:cl 0 (40::s.drop (i+1))=(cl 1 (s.drop (i+1))).map (· +1):=by
  simp only[cl,hs]
  rw[if_neg (by decide)]
 obtain⟨m,hm⟩:=cl_some (s.drop (i+1)) 1 (by decide) (by simpa[bl] using hb)
 obtain⟨q1,q2⟩:=cl_at _ 1 m (by decide) hm
 refine⟨m+1,by rw[hd,hc,hm];rfl,by omega,?_,?_⟩
 ·rw[List.length_drop] at q1;omega
 ·have:=q2 (by decide)
  rw[List.getElem?_drop] at this
  rw[←this]
  congr 1
  omega
structure Row (sz:Nat) (x:PD) (es:List PD):Prop where
 len:lenD 1 (.p x)=some es.length
 at_:∀(i:Nat) e,es[i]? =some e→iaddrD none sz (.p x) (i:Int)=some (.ro e.cells 0)
 one:x.one=true
theorem row_slice(sz:Nat)(es:List PD):Row sz (.slice sz es) es:=by
 refine⟨rfl,fun i e h=>?_,rfl⟩
 simp[iaddrD,D.elems?,h]
theorem row_nils(sz:Nat):Row sz .nils []:=⟨rfl,fun i e h=>(by cases h),rfl⟩
section
variable (s : List UInt8) (x0 x1 x2 x3 : PD)
theorem ld_ro2{G:Nat→Option (List PD)}{H:Hp}(x y:PD)(n:Nd):loadD G H (some 5) (.ro (x::y::n.cells) 2)=some (.p n.pd):=by rw[pd_cells];rfl
theorem ld_ro1{G:Nat→Option (List PD)}{H:Hp}(x:PD)(n:Nd):loadD G H (some 5) (.ro (x::n.cells) 1)=some (.p n.pd):=by rw[pd_cells];rfl
end
end Go.Proofs.YtalgjkpkkdljaaaGreatDoor
namespace Go.Proofs.YtalgjkpkkdljaaaGreatDoor
open Go.Vs
def DgOk(n:Nat)(x:PD):Prop:=∃e p,x=dg e p∧e≠0∧p≤n
theorem specL_ok{s:List UInt8}(hs:s.length≤20000):∀(n a:Nat) (q:Sp),q.Wf→(∀x∈q.f,DgOk s.length x)→q.f.length≤20→a≤(rdS s q).ts.length→
    (specL s n q a).Wf∧(∀x∈(specL s n q a).f,DgOk s.length x)∧(specL s n q a).f.length≤20
 | 0,a,q,hw,hf,hl,ha=>⟨hw,hf,hl⟩
 |n+1,a,q,hw,hf,hl,ha=>by
  have h:(rdS s q).Sz:=rdX_sz s _ _ _ _ _ hs
  unfold specL
  split
  ·rename_i hc
   split
   ·rename_i q' a' hd
    obtain⟨w1,w2⟩:=decl_lt h hc.1 hd
    obtain⟨w3,w4⟩:=decl_wf h hw hd
    exact specL_ok hs n a' q' w3 (by rw[w4];exact hf) (by rw[w4];exact hl) w2
   ·rename_i e p a' hd
    have hb:=decl_bo h (po_rdS s q) hc.1 hd
    have hf2:∀x∈(q.flt e p).f,DgOk s.length x:=fun x hx=>by
     rcases List.mem_append.1 hx with r |r
     ·exact hf x r
     ·exact⟨e,p,List.mem_singleton.1 r,hb.e0,hb.p⟩
    have hl2:(q.flt e p).f.length≤20:=by simp[Sp.flt];omega
    split
    ·exact⟨hw.flt e p,hf2,hl2⟩
    ·exact specL_ok hs n _ _ (hw.flt e p) hf2 hl2 (skipP_le _ _ hb.len).2
  ·exact⟨hw,hf,hl⟩
structure PaR (s:List UInt8) (AD:D) (x0 x1 x2 x3 d:PD) (es:List PD) (ps:List (List UInt8×List (List UInt8×Nat)×Nd)) (fs:List (List UInt8×Nd)):Prop where
 eq:parseD s= .tup [AD,.p d]
 st:∀bx tk,storeD ⟨[.p .nils,.p .nils,.p .nils,.p .nils]::bx,tk⟩ 4 (.box 0 0) AD=some ⟨[.p x0,.p x1,.p x2,.p x3]::bx,tk⟩
 rd:Row 2 d es
 rp:Row 7 x2 (ps.map pPD)
 ra:Row 6 x3 (fs.map aPD)
 ne:es.length≤20
 np:ps.length≤20
 na:fs.length≤20
 de:∀x∈es,DgOk s.length x
 pv:∀x∈ps,validN x.2.2=true∧knd x.2.2.op=3
 av:∀x∈fs,validN x.2=true∧knd x.2.op=3
def DR(s t:List UInt8)(x y:PD):Prop:=∃e j,x=dg e ((rdF s []).tok j).p∧y=dg e ((rdF t []).tok j).p
inductive FR (s t:List UInt8):List PD→List PD→Prop where
 |nil:FR s t [] []
 |cons {x y:PD} {f g:List PD} (h:DR s t x y) (r:FR s t f g):FR s t (x::f) (y::g)
theorem FR.len{s t:List UInt8}{f g:List PD}(h:FR s t f g):f.length=g.length:=by
 induction h with
 |nil=>rfl
 |cons _ _ ih=>simp[ih]
theorem FR.app{s t:List UInt8}{f g:List PD}(h:FR s t f g){x y:PD}(hx:DR s t x y):FR s t (f++[x]) (g++[y]):=by
 induction h with
 |nil=>exact .cons hx .nil
 |cons h _ ih=>exact .cons h ih
section
variable {s t : List UInt8} (hs : s.length ≤ 20000) (ht : t.length ≤ 20000) (hk : ∀ i, ktAt (rdF s []) i = ktAt (rdF t []) i)
def mS(q q':Sp)(hk:∀i,ktAt (rdF s []) i=ktAt (rdF t []) i):Same2 where
 c:=rdS s q
 c':=rdS t q'
 δ:=0
 b:=0
 I:=fun _=>True
 dn:=fun _ _ _ _=>trivial
 kt:=fun i _ _=>by
  have h1:(rdS s q).tok i=(rdF s []).tok i:=tok_X ..
  have h2:(rdS t q').tok i=(rdF t []).tok i:=tok_X ..
  have:=hk i
  simp only[ktAt] at this⊢
  rw[Nat.add_zero,h1,h2]
  exact this
include hs ht hk
theorem len_kt:(rdF s []).ts.length=(rdF t []).ts.length:=by
 have h1:=rdF_sz s [] hs
 have h2:=rdF_sz t [] ht
 rcases Nat.lt_trichotomy (rdF s []).ts.length (rdF t []).ts.length with q |q |q
 ·have:=congrArg Prod.fst (hk (rdF s []).ts.length)
  simp only[ktAt] at this
  rw[tok_out (Nat.le_refl _),tok_in q] at this
  exact absurd this.symm (h2.k _ (List.getElem_mem q))
 ·exact q
 ·have:=congrArg Prod.fst (hk (rdF t []).ts.length)
  simp only[ktAt] at this
  rw[tok_out (Nat.le_refl _),tok_in q] at this
  exact absurd this (h1.k _ (List.getElem_mem q))
omit hs ht in
theorem skipP_kt{q q':Sp}(hl:(rdS s q).ts.length=(rdS t q').ts.length):∀n a,skipP (rdS s q) n a=skipP (rdS t q') n a
 | 0,a=>rfl
 |n+1,a=>by
  have h1:(rdS s q).tok a=(rdF s []).tok a:=tok_X ..
  have h2:(rdS t q').tok a=(rdF t []).tok a:=tok_X ..
  have h3:((rdS s q).tok a).t=((rdS t q').tok a).t:=by
   rw[h1,h2];exact congrArg Prod.snd (hk a)
  unfold skipP
  rw[hl,h3,skipP_kt hl n (a+1)]
theorem specL_kt:∀(n a:Nat) (q q':Sp),EQ q q'→FR s t q.f q'.f→a≤(rdS s q).ts.length→EQ (specL s n q a) (specL t n q' a)∧FR s t (specL s n q a).f (specL t n q' a).f
 | 0,a,q,q',hq,hf,ha=>⟨hq,hf⟩
 |n+1,a,q,q',hq,hf,ha=>by
  have hz:(rdS s q).Sz:=rdX_sz s _ _ _ _ _ hs
  have hz':(rdS t q').Sz:=rdX_sz t _ _ _ _ _ ht
  have hl:(rdS s q).ts.length=(rdS t q').ts.length:=by
   have:=len_kt hs ht hk
   rw[show(rdS s q).ts=(Lx.lex s).1 from rdX_ts ..,show(rdS t q').ts=(Lx.lex t).1 from rdX_ts ..]
   rw[rdF_ts,rdF_ts] at this
   exact this
  unfold specL
  rw[←hl,←hf.len]
  by_cases hc:a<(rdS s q).ts.length∧q.f.length<20
  ·rw[if_pos hc,if_pos hc]
   have hd:=Same2.decl (M:=mS q q' hk) hz hz' hq (i:=a) (Nat.zero_le _) hc.1
   have e0:a+(mS q q' hk).δ=a:=rfl
   rw[e0] at hd
   have hdd:(mS q q' hk).Sm EQ (declP (rdS s q) q a) (declP (rdS t q') q' a):=hd
   cases r:declP (rdS s q) q a with
   |ok q2 a2=>
    rw[r] at hdd
    obtain⟨q2',h1,h2⟩:=hdd trivial
    rw[h1]
    dsimp only
    obtain⟨w1,w2⟩:=decl_lt hz hc.1 r
    have f1:q2.f=q.f:=declF r
    have f2:q2'.f=q'.f:=declF h1
    exact specL_kt n a2 q2 q2' h2 (by rw[f1,f2];exact hf) w2
   |bad e p a2=>
    rw[r] at hdd
    obtain⟨p',h1,j,_,hp,hp'⟩:=hdd (fun _=>trivial)
    rw[h1]
    dsimp only
    have hb:=decl_bo hz (po_rdS s q) hc.1 r
    have hx:DR s t (dg e p) (dg e p'):=by
     refine⟨e,j,?_,?_⟩
     ·rw[hp];show dg e ((rdS s q).tok j).p=_;rw[show(rdS s q).tok j=(rdF s []).tok j from tok_X ..]
     ·rw[hp'];show dg e ((rdS t q').tok j).p=_;rw[show(rdS t q').tok j=(rdF t []).tok j from tok_X ..]
    have hf2:FR s t (q.flt e p).f (q'.flt e p').f:=hf.app hx
    have hq2:EQ (q.flt e p) (q'.flt e p'):=⟨hq.S,hq.F,hq.P,hq.A⟩
    split
    ·exact⟨hq2,hf2⟩
    ·rw[←skipP_kt hk hl]
     exact specL_kt n _ _ _ hq2 hf2 (skipP_le _ _ hb.len).2
  ·rw[if_neg hc,if_neg hc]
   exact⟨hq,hf⟩
theorem parseS_kt:EQ (parseS s) (parseS t)∧FR s t (parseS s).f (parseS t).f:=by
 have:=len_kt hs ht hk
 rw[rdF_ts,rdF_ts] at this
 unfold parseS
 rw[←this]
 exact specL_kt hs ht hk _ 0 q0 q0 ⟨rfl,rfl,rfl,rfl⟩ .nil (Nat.zero_le _)
theorem formula_kt:match formulaP (rdF s []) with
    | .ok n _=>∃n' a',formulaP (rdF t [])= .ok n' a'∧n.er=n'.er
    | .bad e p _=>∃p' a' j,formulaP (rdF t [])= .bad e p' a'∧p=((rdF s []).tok j).p∧p'=((rdF t []).tok j).p:=by
 let M:Same2:=⟨rdF s [],rdF t [],0,0,fun _=>True,fun _ _ _ _=>trivial,fun i _ _=>hk i⟩
 have h:=Same2.formula (M:=M) (rdF_sz s [] hs) (rdF_sz t [] ht) rfl rfl
 have h':M.Sm Same2.EN (formulaP (rdF s [])) (formulaP (rdF t [])):=h
 cases r:formulaP (rdF s []) with
 |ok n a=>
  rw[r] at h'
  obtain⟨n',h1,h2⟩:=h' trivial
  exact⟨n',_,h1,h2⟩
 |bad e p a=>
  rw[r] at h'
  obtain⟨p',h1,j,_,hp,hp'⟩:=h' (fun _=>trivial)
  exact⟨p',_,j,h1,hp,hp'⟩
end
end Go.Proofs.YtalgjkpkkdljaaaGreatDoor
namespace Go.Proofs.YtalgjkpkkdljaaaGreatDoor
open Go.Vs
theorem lp_well{keep:List Nat}{b:SC}{n:Nat}{P:Nat→St}{o:Nat}{Q:St→Prop}(hk:∀i,(P i).env.keep keep=(P i).env)(hend:∃s',evS (call pg) pg.G iterX b (P n)=some (.exit o,s')∧Q s')
    (hstep:∀i,i<n→evS (call pg) pg.G iterX b (P i)=some (.norm,P (i+1))):∀(m i:Nat),n-i≤m→i≤n→∃s',loopK (call pg) pg.G keep b (P i)=some (.exit o,s')∧Q s':=by
 intro m
 induction m with
 |zero=>
  intro i h1 h2
  have :i=n:=by omega
  subst this
  obtain⟨s',e,g⟩:=hend
  exact⟨s',loopK_out (by rw[hk];exact e) (by simp),g⟩
 |succ m ih=>
  intro i h1 h2
  by_cases hq:i=n
  ·subst hq
   obtain⟨s',e,g⟩:=hend
   exact⟨s',loopK_out (by rw[hk];exact e) (by simp),g⟩
  ·obtain⟨s',e,g⟩:=ih (i+1) (by omega) (by omega)
   refine⟨s',?_,g⟩
   rw[←e]
   exact loopK_norm (by rw[hk];exact hstep i (by omega))
def inS(x y:PD)(i:Nat):St:=⟨[(0,.p x),(1,.p y),(5,.p (.int .i64 i))],⟨[],[]⟩⟩
theorem ints_eq{x y:PD}{l:List Nat}(hx:Row 1 x (l.map iPD))(hy:Row 1 y (l.map iPD))(hl:l.length≤1000000)(H:Hp):callD (call pg) 57 [.p x,.p y] H=some (.val (.p (.bool true)),H):=by
 have lx:=hx.len
 have ly:=hy.len
 rw[List.length_map] at lx ly
 obtain⟨s',e,hq⟩:=lp_well (keep:=[0,1,5]) (b:=fc57_b0) (n:=l.length) (P:=inS x y) (o:=0) (Q:=fun s'=>s'.hp=⟨[],[]⟩) (fun _=>rfl) (by
  refine⟨?_,?_,?_⟩
  rotate_left
  ·simp only[inS]
   simp[fc57_b0,evKC,evK,put,Env.get,Env.keep,Opd.ev,binD,lx]
   rfl
  ·rfl) (fun i hi=>by
  have hi':(l.map iPD)[i]? =some (.int .i64 l[i]):=by simp[hi,iPD]
  have ax:=hx.at_ i _ hi'
  have ay:=hy.at_ i _ hi'
  have hlt:(i:Int)<(l.length:Int):=by omega
  have hw:=inc64 (k:=i) (by omega)
  have ek:((i+1 :Nat):Int)=(i:Int)+1:=rfl
  rw[ek] at hw
  simp only[PD.cells] at ax ay
  simp only[inS,ek]
  simp[fc57_b0,evKC,evK,put,Env.get,Env.keep,Opd.ev,loadD,cutAt,D.asInt?,binD,clsP,cls,isW,apartRW,offB,apartWW,clash,insOk,lx,ax,ay,hlt,hw]) l.length 0 (by omega) (by omega)
 obtain⟨env,hp⟩:=s'
 simp only at hq
 subst hq
 refine callD_any (d:=.p (.bool true)) ⟨⟨[],[]⟩,call_body (fc:=fc57) rfl rfl rfl rfl ?_⟩ rfl rfl rfl rfl H
 simp only[inS,Int.natCast_zero] at e
 simp[fc57,evKC,evK,put,Env.get,Env.keep,entry,Opd.ev,binD,finish,evRes,evRes1,lx,ly,e]
theorem params_eq{x y:PD}{l:List (List UInt8×Nat)}(hx:Row 2 x (l.map mPD))(hy:Row 2 y (l.map mPD))(hl:l.length≤1000000)(H:Hp):callD (call pg) 58 [.p x,.p y] H=some (.val (.p (.bool true)),H):=by
 have lx:=hx.len
 have ly:=hy.len
 rw[List.length_map] at lx ly
 obtain⟨s',e,hq⟩:=lp_well (keep:=[0,1,5]) (b:=fc58_b0) (n:=l.length) (P:=inS x y) (o:=0) (Q:=fun s'=>s'.hp=⟨[],[]⟩) (fun _=>rfl) (by
  refine⟨?_,?_,?_⟩
  rotate_left
  ·simp only[inS]
   simp[fc58_b0,evKC,evK,put,Env.get,Env.keep,Opd.ev,binD,lx]
   rfl
  ·rfl) (fun i hi=>by
  have hi':(l.map mPD)[i]? =some (.agg [.str l[i].1,.int .i64 l[i].2]):=by simp[hi,mPD]
  have ax:=hx.at_ i _ hi'
  have ay:=hy.at_ i _ hi'
  have hlt:(i:Int)<(l.length:Int):=by omega
  have hw:=inc64 (k:=i) (by omega)
  have ek:((i+1 :Nat):Int)=(i:Int)+1:=rfl
  rw[ek] at hw
  simp only[PD.cells] at ax ay
  have l2:∀G H (a b:PD),loadD G H (some 2) (.ro [a,b] 0)=some (.p (.agg [a,b])):=fun _ _ _ _=>rfl
  simp only[inS,ek]
  simp[fc58_b0,evKC,evK,put,Env.get,Env.keep,Opd.ev,D.asInt?,binD,eqvL,PD.eqv,clsP,cls,isW,apartRW,offB,apartWW,clash,insOk,lx,ax,ay,l2,hlt,hw]) l.length 0 (by omega) (by omega)
 obtain⟨env,hp⟩:=s'
 simp only at hq
 subst hq
 refine callD_any (d:=.p (.bool true)) ⟨⟨[],[]⟩,call_body (fc:=fc58) rfl rfl rfl rfl ?_⟩ rfl rfl rfl rfl H
 simp only[inS,Int.natCast_zero] at e
 simp[fc58,evKC,evK,put,Env.get,Env.keep,entry,Opd.ev,binD,finish,evRes,evRes1,lx,ly,e]
structure SpR (x0 x1 x2 x3:PD) (q:Sp):Prop where
 S:Row 2 x0 (q.S.map sPD)
 F:Row 3 x1 (q.F.map fPD)
 P:Row 7 x2 (q.P.map pPD)
 A:Row 6 x3 (q.A.map aPD)
structure SpN (q:Sp):Prop where
 S:q.S.length≤1000
 F:q.F.length≤1000
 P:q.P.length≤1000
 A:q.A.length≤1000
 fn:∀x∈q.F,x.2.1.length≤1000000
 pn:∀x∈q.P,x.2.1.length≤1000000
 ps:∀x∈q.P,x.2.2.size≤1000000000
 az:∀x∈q.A,x.2.size≤1000000000
def ssS(x y:List PD)(k i:Nat):St:=⟨[(2,.p (.bool false)),(3,.box 0 0),(4,.box 1 0),(k,.p (.int .i64 i))],⟨[x.map .p,y.map .p],[]⟩⟩
def SsQ(x y:List PD)(s':St):Prop:=s'.hp=⟨[x.map .p,y.map .p],[]⟩∧s'.env.get 2= .p (.bool false)∧s'.env.get 3= .box 0 0∧s'.env.get 4= .box 1 0
theorem map_two{α β:Type}{f:α→β}{l m:List α}(h:l.map f=m.map f){i:Nat}(hi:i<l.length):∃y,m[i]? =some y∧f l[i]=f y:=by
 have hl:l.length=m.length:=by have:=congrArg List.length h;simpa using this
 have hm:i<m.length:=by omega
 refine⟨m[i],List.getElem?_eq_getElem hm,?_⟩
 have:=congrArg (fun l=>l[i]?) h
 simpa[hi,hm] using this
theorem ld_ag2{G:Nat→Option (List PD)}{H:Hp}(x y:PD):loadD G H (some 2) (.ro [x,y] 0)=some (.p (.agg [x,y])):=rfl
theorem ld_c{G:Nat→Option (List PD)}{H:Hp}{l:List PD}{o:Nat}{x:PD}(h:l[o]? =some x)(_hx:x.one=true):loadD G H none (.ro l o)=some (.p x):=by
 simp only[loadD,cutAt,h]
 rfl
section
variable (x0 x1 x2 x3 y0 y1 y2 y3 : PD) (q q' : Sp) (hr : SpR x0 x1 x2 x3 q) (hr' : SpR y0 y1 y2 y3 q') (hn : SpN q) (hq : EQ q q')
include hr in
theorem ss_end0:∃s',evS (call pg) pg.G iterX fc28_b0 (ssS [x0,x1,x2,x3] [y0,y1,y2,y3] 7 q.S.length)=some (.exit 0,s')∧SsQ [x0,x1,x2,x3] [y0,y1,y2,y3] s':=by
 have hl:=hr.S.len
 rw[List.length_map] at hl
 refine⟨?_,?_,?_⟩
 rotate_left
 ·simp only[ssS,List.map_cons,List.map_nil]
  simp[fc28_b0,evKC,evK,put,Env.get,Env.keep,Opd.ev,cutAt,binD,List.map,ld_zero,hl]
  rfl
 ·exact⟨rfl,rfl,rfl,rfl⟩
include hr hr' hn hq in
theorem ss_step0{i:Nat}(hi:i<q.S.length):evS (call pg) pg.G iterX fc28_b0 (ssS [x0,x1,x2,x3] [y0,y1,y2,y3] 7 i)=some (.norm,ssS [x0,x1,x2,x3] [y0,y1,y2,y3] 7 (i+1)):=by
 have hl:=hr.S.len
 rw[List.length_map] at hl
 have hlt:(i:Int)<(q.S.length:Int):=by omega
 have hw:=inc64 (k:=i) (by have:=hn.S;omega)
 have ek:((i+1 :Nat):Int)=(i:Int)+1:=rfl
 rw[ek] at hw
 have hx:=hr.S.at_ i (sPD q.S[i]) (by simp[hi])
 have hy:=hr'.S.at_ i (sPD q.S[i]) (by rw[hq.S];simp[hi])
 simp only[sPD,PD.cells] at hx hy
 have l2:=fun G H=>ld_ag2 (G:=G) (H:=H) (.str q.S[i].1) (.bool q.S[i].2)
 simp only[ssS,List.map_cons,List.map_nil,ek]
 simp[fc28_b0,evKC,evK,put,Env.get,Env.keep,Opd.ev,cutAt,D.asInt?,binD,eqvL,PD.eqv,clsP,cls,clsR,isCl,isW,apartRW,offB,apartWW,clash,insOk,List.map,ld_succ,ld_zero,hl,hlt,hw,hx,hy,l2]
include hr in
theorem ss_end1:∃s',evS (call pg) pg.G iterX fc28_b1 (ssS [x0,x1,x2,x3] [y0,y1,y2,y3] 8 q.F.length)=some (.exit 2,s')∧SsQ [x0,x1,x2,x3] [y0,y1,y2,y3] s':=by
 have hl:=hr.F.len
 rw[List.length_map] at hl
 refine⟨?_,?_,?_⟩
 rotate_left
 ·simp only[ssS,List.map_cons,List.map_nil]
  simp[fc28_b1,evKC,evK,put,Env.get,Env.keep,Opd.ev,cutAt,binD,mapO,D.renL,D.ren,locD,below,Out.ren,List.map,ld_zero,hl]
  rfl
 ·exact⟨rfl,rfl,rfl,rfl⟩
include hr hr' hn hq in
theorem ss_step1{i:Nat}(hi:i<q.F.length):evS (call pg) pg.G iterX fc28_b1 (ssS [x0,x1,x2,x3] [y0,y1,y2,y3] 8 i)=some (.norm,ssS [x0,x1,x2,x3] [y0,y1,y2,y3] 8 (i+1)):=by
 have hl:=hr.F.len
 rw[List.length_map] at hl
 have hlt:(i:Int)<(q.F.length:Int):=by omega
 have hw:=inc64 (k:=i) (by have:=hn.F;omega)
 have ek:((i+1 :Nat):Int)=(i:Int)+1:=rfl
 rw[ek] at hw
 have hx:=hr.F.at_ i (fPD q.F[i]) (by simp[hi])
 have hy:=hr'.F.at_ i (fPD q.F[i]) (by rw[hq.F];simp[hi])
 have hm:q.F[i]∈q.F:=List.getElem_mem hi
 generalize q.F[i]=x at *
 have hc:(fPD x).cells=[.str x.1,.slice 1 (x.2.1.map iPD),.bool x.2.2]:=by simp[fPD,PD.cells]
 rw[hc] at hx hy
 have lA:=fun G H=>ld_c (G:=G) (H:=H) (l:=[.str x.1,.slice 1 (x.2.1.map iPD),.bool x.2.2]) (o:=0) rfl rfl
 have lB:=fun G H=>ld_c (G:=G) (H:=H) (l:=[.str x.1,.slice 1 (x.2.1.map iPD),.bool x.2.2]) (o:=1) rfl rfl
 have lC:=fun G H=>ld_c (G:=G) (H:=H) (l:=[.str x.1,.slice 1 (x.2.1.map iPD),.bool x.2.2]) (o:=2) rfl rfl
 have hcall:=ints_eq (row_slice 1 (x.2.1.map iPD)) (row_slice 1 (x.2.1.map iPD)) (hn.fn _ hm)
 simp only[ssS,List.map_cons,List.map_nil,ek]
 simp[fc28_b1,evKC,evK,evGuard,put,Env.get,Env.keep,Opd.ev,cutAt,D.asInt?,binD,strBin,unD,clsP,cls,clsR,isCl,isW,apartRW,offB,apartWW,clash,insOk,mapO,D.refsL,D.refs,D.toksL,D.toks,eqD,D.renL,D.ren,locD,below,Out.ren,List.map,ld_succ,ld_zero,hl,hlt,hw,hx,hy,lA,lB,lC,hcall]
include hr in
theorem ss_end2:∃s',evS (call pg) pg.G iterX fc28_b2 (ssS [x0,x1,x2,x3] [y0,y1,y2,y3] 9 q.P.length)=some (.exit 4,s')∧SsQ [x0,x1,x2,x3] [y0,y1,y2,y3] s':=by
 have hl:=hr.P.len
 rw[List.length_map] at hl
 refine⟨?_,?_,?_⟩
 rotate_left
 ·simp only[ssS,List.map_cons,List.map_nil]
  simp[fc28_b2,evKC,evK,put,Env.get,Env.keep,Opd.ev,cutAt,binD,mapO,D.renL,D.ren,locD,below,Out.ren,List.map,ld_zero,hl]
  rfl
 ·exact⟨rfl,rfl,rfl,rfl⟩
include hr hr' hn hq in
theorem ss_step2{i:Nat}(hi:i<q.P.length):evS (call pg) pg.G iterX fc28_b2 (ssS [x0,x1,x2,x3] [y0,y1,y2,y3] 9 i)=some (.norm,ssS [x0,x1,x2,x3] [y0,y1,y2,y3] 9 (i+1)):=by
 have hl:=hr.P.len
 rw[List.length_map] at hl
 have hlt:(i:Int)<(q.P.length:Int):=by omega
 have hw:=inc64 (k:=i) (by have:=hn.P;omega)
 have ek:((i+1 :Nat):Int)=(i:Int)+1:=rfl
 rw[ek] at hw
 obtain⟨y,hy0,he⟩:=map_two hq.P hi
 have hx:=hr.P.at_ i (pPD q.P[i]) (by simp[hi])
 have hy:=hr'.P.at_ i (pPD y) (by simp[hy0])
 have hm:q.P[i]∈q.P:=List.getElem_mem hi
 generalize q.P[i]=x at *
 obtain⟨n,ps,a⟩:=x
 obtain⟨n',ps',a'⟩:=y
 simp only[eP,Prod.mk.injEq] at he
 obtain⟨rfl,rfl,he⟩:=he
 have hc:∀b:Nd,(pPD (n,ps,b)).cells= .str n:: .slice 2 (ps.map mPD)::b.cells:=fun b=>by simp[pPD,PD.cells]
 rw[hc] at hx hy
 have lA:=fun G H (b:Nd)=>ld_c (G:=G) (H:=H) (l:=.str n:: .slice 2 (ps.map mPD)::b.cells) (o:=0) rfl rfl
 have lB:=fun G H (b:Nd)=>ld_c (G:=G) (H:=H) (l:=.str n:: .slice 2 (ps.map mPD)::b.cells) (o:=1) rfl rfl
 have lC:=fun G H (b:Nd)=>ld_ro2 (G:=G) (H:=H) (.str n) (.slice 2 (ps.map mPD)) b
 have hcall:=params_eq (row_slice 2 (ps.map mPD)) (row_slice 2 (ps.map mPD)) (hn.pn _ hm)
 have hsame:=same_er 1000000000 a a' (hn.ps _ hm) (Nat.le_refl _) he
 simp only[ssS,List.map_cons,List.map_nil,ek]
 simp[fc28_b2,evKC,evK,evGuard,put,Env.get,Env.keep,Opd.ev,cutAt,D.asInt?,binD,strBin,unD,clsP,cls,clsR,isCl,isW,apartRW,offB,apartWW,clash,insOk,mapO,D.refsL,D.refs,D.toksL,D.toks,D.renL,D.ren,locD,below,Out.ren,List.map,ld_succ,ld_zero,hl,hlt,hw,hx,hy,lA,lB,lC,hcall,hsame]
include hr in
theorem ss_end3:∃s',evS (call pg) pg.G iterX fc28_b3 (ssS [x0,x1,x2,x3] [y0,y1,y2,y3] 10 q.A.length)=some (.exit 6,s')∧SsQ [x0,x1,x2,x3] [y0,y1,y2,y3] s':=by
 have hl:=hr.A.len
 rw[List.length_map] at hl
 refine⟨?_,?_,?_⟩
 rotate_left
 ·simp only[ssS,List.map_cons,List.map_nil]
  simp[fc28_b3,evKC,evK,put,Env.get,Env.keep,Opd.ev,cutAt,binD,mapO,D.renL,D.ren,locD,below,Out.ren,List.map,ld_zero,hl]
  rfl
 ·exact⟨rfl,rfl,rfl,rfl⟩
include hr hr' hn hq in
theorem ss_step3{i:Nat}(hi:i<q.A.length):evS (call pg) pg.G iterX fc28_b3 (ssS [x0,x1,x2,x3] [y0,y1,y2,y3] 10 i)=some (.norm,ssS [x0,x1,x2,x3] [y0,y1,y2,y3] 10 (i+1)):=by
 have hl:=hr.A.len
 rw[List.length_map] at hl
 have hlt:(i:Int)<(q.A.length:Int):=by omega
 have hw:=inc64 (k:=i) (by have:=hn.A;omega)
 have ek:((i+1 :Nat):Int)=(i:Int)+1:=rfl
 rw[ek] at hw
 obtain⟨y,hy0,he⟩:=map_two hq.A hi
 have hx:=hr.A.at_ i (aPD q.A[i]) (by simp[hi])
 have hy:=hr'.A.at_ i (aPD y) (by simp[hy0])
 have hm:q.A[i]∈q.A:=List.getElem_mem hi
 generalize q.A[i]=x at *
 obtain⟨n,a⟩:=x
 obtain⟨n',a'⟩:=y
 simp only[eA,Prod.mk.injEq] at he
 obtain⟨rfl,he⟩:=he
 have hc:∀b:Nd,(aPD (n,b)).cells= .str n::b.cells:=fun b=>by simp[aPD,PD.cells]
 rw[hc] at hx hy
 have lA:=fun G H (b:Nd)=>ld_c (G:=G) (H:=H) (l:=.str n::b.cells) (o:=0) rfl rfl
 have lC:=fun G H (b:Nd)=>ld_ro1 (G:=G) (H:=H) (.str n) b
 have hsame:=same_er 1000000000 a a' (hn.az _ hm) (Nat.le_refl _) he
 simp only[ssS,List.map_cons,List.map_nil,ek]
 simp[fc28_b3,evKC,evK,evGuard,put,Env.get,Env.keep,Opd.ev,cutAt,D.asInt?,binD,strBin,unD,clsP,cls,clsR,isCl,isW,apartRW,offB,apartWW,clash,insOk,mapO,D.refsL,D.refs,D.toksL,D.toks,D.renL,D.ren,locD,below,Out.ren,List.map,ld_succ,ld_zero,hl,hlt,hw,hx,hy,lA,lC,hsame]
include hr hr' hn hq in
theorem ss_eq(H:Hp):callD (call pg) 28 [.p (.agg [x0,x1,x2,x3]),.p (.agg [y0,y1,y2,y3]),.p (.bool false)] H=some (.val (.p (.bool true)),H):=by
 obtain⟨s0,e0,h0,u0,v0,w0⟩:=lp_well (keep:=[2,3,4,7]) (b:=fc28_b0) (n:=q.S.length) (P:=ssS [x0,x1,x2,x3] [y0,y1,y2,y3] 7) (o:=0) (Q:=SsQ [x0,x1,x2,x3] [y0,y1,y2,y3]) (fun _=>rfl) (ss_end0 x0 x1 x2 x3 y0 y1 y2 y3 q hr) (fun i hi=>ss_step0 x0 x1 x2 x3 y0 y1 y2 y3 q q' hr hr' hn hq hi) q.S.length 0 (by omega) (by omega)
 obtain⟨env0,hp0⟩:=s0
 simp only at h0 u0 v0 w0
 subst h0
 obtain⟨s1,e1,h1,u1,v1,w1⟩:=lp_well (keep:=[2,3,4,8]) (b:=fc28_b1) (n:=q.F.length) (P:=ssS [x0,x1,x2,x3] [y0,y1,y2,y3] 8) (o:=2) (Q:=SsQ [x0,x1,x2,x3] [y0,y1,y2,y3]) (fun _=>rfl) (ss_end1 x0 x1 x2 x3 y0 y1 y2 y3 q hr) (fun i hi=>ss_step1 x0 x1 x2 x3 y0 y1 y2 y3 q q' hr hr' hn hq hi) q.F.length 0 (by omega) (by omega)
 obtain⟨env1,hp1⟩:=s1
 simp only at h1 u1 v1 w1
 subst h1
 obtain⟨s2,e2,h2,u2,v2,w2⟩:=lp_well (keep:=[2,3,4,9]) (b:=fc28_b2) (n:=q.P.length) (P:=ssS [x0,x1,x2,x3] [y0,y1,y2,y3] 9) (o:=4) (Q:=SsQ [x0,x1,x2,x3] [y0,y1,y2,y3]) (fun _=>rfl) (ss_end2 x0 x1 x2 x3 y0 y1 y2 y3 q hr) (fun i hi=>ss_step2 x0 x1 x2 x3 y0 y1 y2 y3 q q' hr hr' hn hq hi) q.P.length 0 (by omega) (by omega)
 obtain⟨env2,hp2⟩:=s2
 simp only at h2 u2 v2 w2
 subst h2
 obtain⟨s3,e3,h3,u3,v3,w3⟩:=lp_well (keep:=[2,3,4,10]) (b:=fc28_b3) (n:=q.A.length) (P:=ssS [x0,x1,x2,x3] [y0,y1,y2,y3] 10) (o:=6) (Q:=SsQ [x0,x1,x2,x3] [y0,y1,y2,y3]) (fun _=>rfl) (ss_end3 x0 x1 x2 x3 y0 y1 y2 y3 q hr) (fun i hi=>ss_step3 x0 x1 x2 x3 y0 y1 y2 y3 q q' hr hr' hn hq hi) q.A.length 0 (by omega) (by omega)
 obtain⟨env3,hp3⟩:=s3
 simp only at h3 u3 v3 w3
 subst h3
 refine callD_any (d:=.p (.bool true)) ⟨⟨[[.p x0,.p x1,.p x2,.p x3],[.p y0,.p y1,.p y2,.p y3]],[]⟩,call_body (fc:=fc28) rfl rfl rfl rfl ?_⟩ rfl rfl rfl rfl H
 simp only[ssS,Int.natCast_zero,List.map_cons,List.map_nil] at e0 e1 e2 e3
 have lS:=hr.S.len
 have mS:=hr'.S.len
 rw[List.length_map] at lS mS
 have oS:(D.p x0).one=true:=hr.S.one
 have pS:(D.p y0).one=true:=hr'.S.one
 have lF:=hr.F.len
 have mF:=hr'.F.len
 rw[List.length_map] at lF mF
 have oF:(D.p x1).one=true:=hr.F.one
 have pF:(D.p y1).one=true:=hr'.F.one
 have lP:=hr.P.len
 have mP:=hr'.P.len
 rw[List.length_map] at lP mP
 have oP:(D.p x2).one=true:=hr.P.one
 have pP:(D.p y2).one=true:=hr'.P.one
 have lA:=hr.A.len
 have mA:=hr'.A.len
 rw[List.length_map] at lA mA
 have oA:(D.p x3).one=true:=hr.A.one
 have pA:(D.p y3).one=true:=hr'.A.one
 rw[hq.S] at mS
 rw[hq.F] at mF
 rw[←hq.pl] at mP
 rw[←hq.al] at mA
 simp[fc28,evKC,evK,evGuard,put,Env.keep,entry,Opd.ev,cutAt,binD,finish,evRes,evRes1,D.cells,ld_succ,ld_zero,lS,lF,lP,lA,mS,mF,mP,mA,oS,oF,oP,oA,pS,pF,pP,pA,e0,e1,e2,e3,u0,u1,u2,v0,v1,v2,w0,w1,w2,Env.get]
end
end Go.Proofs.YtalgjkpkkdljaaaGreatDoor
namespace Go.Proofs.YtalgjkpkkdljaaaGreatDoor.Lx
open Go.Vs
theorem sk_split:∀(m:Bool) (r:List UInt8),∃p,r=p++sk m r∧sk m p=[]
 |_,[]=>⟨[],by cases ‹Bool› <;>rfl,by cases ‹Bool› <;>rfl⟩
 |true,c::t=>by
  simp only[sk]
  split
  ·rename_i h
   obtain⟨p,h1,h2⟩:=sk_split false t
   exact⟨c::p,by rw[List.cons_append,←h1],by simp only[sk,h,if_true,h2]⟩
  ·rename_i h
   obtain⟨p,h1,h2⟩:=sk_split true t
   exact⟨c::p,by rw[List.cons_append,←h1],by simp only[sk,h,if_false,h2,Bool.false_eq_true]⟩
 |false,c::t=>by
  simp only[sk]
  split
  ·rename_i h
   obtain⟨p,h1,h2⟩:=sk_split false t
   exact⟨c::p,by rw[List.cons_append,←h1],by simp only[sk,h,if_true,h2]⟩
  ·rename_i h
   split
   ·rename_i hc
    obtain⟨p,h1,h2⟩:=sk_split true t
    have hp:(p.head?==some 47)=true:=by
     rw[Bool.and_eq_true] at hc
     cases t with
     |nil=>cases hc.2
     |cons d t'=>
      have hd:d=47:=by simpa using hc.2
      subst hd
      cases p with
      |nil=>
       exfalso
       have e:sk true ((47 :UInt8)::t')=sk true t':=rfl
       rw[List.nil_append,e] at h1
       obtain⟨q,k1,_⟩:=sk_split true t'
       have l1:=congrArg List.length h1
       have l2:=congrArg List.length k1
       simp at l1 l2
       omega
      |cons e p'=>
       rw[List.cons_append] at h1
       have:=(List.cons.inj h1).1
       rw[←this];rfl
    refine⟨c::p,by rw[List.cons_append,←h1],?_⟩
    rw[Bool.and_eq_true] at hc
    simp only[sk,h,Bool.false_eq_true,if_false,hc.1,hp,Bool.and_self,if_true,h2]
   ·exact⟨[],rfl,rfl⟩
termination_by _ r=>r.length
theorem sk_len(m:Bool)(r:List UInt8):(sk m r).length≤r.length:=by
 obtain⟨p,h,_⟩:=sk_split m r
 have:=congrArg List.length h
 simp at this
 omega
def solid:List UInt8→Bool
 |[]=>true
 |c::t=>!blB c&& !(c==47&&t.head?==some 47)
theorem sk_solid:∀(m:Bool) (r:List UInt8),solid (sk m r)=true
 |m,[]=>by cases m<;>rfl
 |true,c::t=>by
  simp only[sk]
  split
  ·exact sk_solid false t
  ·exact sk_solid true t
 |false,c::t=>by
  simp only[sk]
  split
  ·exact sk_solid false t
  ·split
   ·exact sk_solid true t
   ·rename_i h1 h2
    simp only[solid]
    simp only[Bool.not_eq_true] at h1 h2
    rw[h1,h2];rfl
theorem sk_of_solid{r:List UInt8}(h:solid r=true):sk false r=r:=by
 cases r with
 |nil=>rfl
 |cons c t=>
  simp only[solid,Bool.and_eq_true,Bool.not_eq_true'] at h
  simp only[sk,h.1,h.2,Bool.false_eq_true,if_false]
def blankHead:List UInt8→Bool
 |[]=>true
 |c::_=>blB c
theorem blank_not(c:UInt8)(h:blB c=true):wrB c=false∧diB c=false∧leB c=false:=by
 have:=all_bytes (p:=fun c=>blB c=true→(wrB c=false∧diB c=false∧leB c=false)) (by decide+kernel) c
 exact this h
theorem tw_app{w:UInt8→Bool}{g:List UInt8}(hg:∀c t,g=c::t→w c=false):∀r:List UInt8,(r++g).takeWhile w=r.takeWhile w
 |[]=>by
  cases g with
  |nil=>rfl
  |cons c t=>rw[List.nil_append,List.takeWhile_cons,hg c t rfl];rfl
 |c::r=>by
  rw[List.cons_append,List.takeWhile_cons,List.takeWhile_cons,tw_app hg r]
theorem dw_app{w:UInt8→Bool}{g:List UInt8}(hg:∀c t,g=c::t→w c=false):∀r:List UInt8,(r++g).dropWhile w=r.dropWhile w++g
 |[]=>by
  cases g with
  |nil=>rfl
  |cons c t=>rw[List.nil_append,List.dropWhile_cons,hg c t rfl];rfl
 |c::r=>by
  rw[List.cons_append,List.dropWhile_cons,List.dropWhile_cons]
  split
  ·exact dw_app hg r
  ·rfl
theorem pre_app{x r g:List UInt8}(hx:∀c∈x,blB c=false)(hg:blankHead g=true):x.isPrefixOf (r++g)=x.isPrefixOf r:=by
 induction x generalizing r with
 |nil=>cases r<;>rfl
 |cons c x ih=>
  cases r with
  |nil=>
   cases g with
   |nil=>rfl
   |cons d g=>
    have h1:blB d=true:=hg
    have h2:=hx c (by simp)
    have h3:(c==d)=false:=by
     rw[Bool.eq_false_iff]
     intro e
     rw[beq_iff_eq] at e
     rw[e,h1] at h2;cases h2
    show(c==d&&_)=false
    rw[h3];rfl
  |cons d r=>
   show(c==d&&x.isPrefixOf (r++g))=(c==d&&x.isPrefixOf r)
   rw[ih fun e he=>hx e (by simp[he])]
theorem firstOf_app{r g:List UInt8}(hg:blankHead g=true):∀l:List (List UInt8),(∀x∈l,∀c∈x,blB c=false)→firstOf (r++g) l=firstOf r l
 |[],_=>rfl
 |x::l,h=>by
  simp only[firstOf]
  rw[pre_app (h x (by simp)) hg,firstOf_app hg l fun y hy=>h y (by simp[hy])]
theorem syms_solid:∀x∈syms,∀c∈x,blB c=false:=by decide+kernel
theorem edge_app{r g:List UInt8}(hg:blankHead g=true):edge (r++g)=edge r:=by
 cases r with
 |cons=>rfl
 |nil=>
  cases g with
  |nil=>rfl
  |cons c g=>
   show(!wrB c)=true
   rw[(blank_not c hg).1];rfl
theorem tokS_app{r g:List UInt8}(hr:r≠[])(hg:blankHead g=true):tokS (r++g)=tokS r:=by
 cases r with
 |nil=>exact absurd rfl hr
 |cons c t=>
  have hw:∀d t,g=d::t→wrB d=false:=fun d t e=>(blank_not d (by rw[e] at hg;exact hg)).1
  have hd:∀d t,g=d::t→diB d=false:=fun d t e=>(blank_not d (by rw[e] at hg;exact hg)).2.1
  have h1:=tw_app hw (c::t)
  have h2:=tw_app hd (c::t)
  have h3:=dw_app hd (c::t)
  have h4:=firstOf_app (r:=c::t) hg syms syms_solid
  rw[List.cons_append] at h1 h2 h3 h4⊢
  simp only[tokS]
  rw[h1,h2,h3,h4,edge_app hg]
theorem tw_cut{w:UInt8→Bool}:∀(u r:List UInt8),((u++r).takeWhile w).length≤u.length→u.takeWhile w=(u++r).takeWhile w∧(u.dropWhile w++r=(u++r).dropWhile w)
 |[],r,h=>by
  have :r.takeWhile w=[]:=List.length_eq_zero_iff.1 (by simpa using h)
  refine⟨by simp[this],?_⟩
  cases r with
  |nil=>rfl
  |cons c r=>
   rw[List.takeWhile_cons] at this
   split at this
   ·cases this
   ·rename_i hc;simp[hc]
 |c::u,r,h=>by
  rw[List.cons_append,List.takeWhile_cons] at h
  rw[List.cons_append,List.takeWhile_cons,List.takeWhile_cons,List.dropWhile_cons,List.dropWhile_cons]
  split
  ·rename_i hc
   rw[if_pos hc] at h
   obtain⟨h1,h2⟩:=tw_cut u r (by simpa using h)
   exact⟨by rw[h1],h2⟩
  ·exact⟨rfl,rfl⟩
theorem pre_cut{x u r:List UInt8}(h:x.length≤u.length):x.isPrefixOf (u++r)=x.isPrefixOf u:=by
 rw[Bool.eq_iff_iff,List.isPrefixOf_iff_prefix,List.isPrefixOf_iff_prefix]
 constructor
 ·intro k
  exact List.prefix_of_prefix_length_le k (List.prefix_append u r) h
 ·intro k
  exact k.trans (List.prefix_append u r)
theorem firstOf_cut{u r:List UInt8}:∀l:List (List UInt8),(firstOf (u++r) l).length≤u.length→firstOf (u++r) l≠[]→firstOf u l=firstOf (u++r) l
 |[],_,h=>absurd rfl h
 |x::l,h,hn=>by
  simp only[firstOf] at h hn⊢
  by_cases hp:x.isPrefixOf (u++r)=true
  ·rw[if_pos hp] at h⊢
   rw[if_pos (by rw[←pre_cut h];exact hp)]
  ·rw[if_neg hp] at h hn⊢
   rw[if_neg,firstOf_cut l h hn]
   intro q
   exact hp (List.isPrefixOf_iff_prefix.2 ((List.isPrefixOf_iff_prefix.1 q).trans (List.prefix_append u r)))
theorem tokS_cut{u r:List UInt8}(hu:u≠[])(h:(tokS (u++r)).2.2=true)(hl:(tokS (u++r)).2.1.length≤u.length):tokS u=tokS (u++r):=by
 cases u with
 |nil=>exact absurd rfl hu
 |cons c t=>
  rw[List.cons_append] at h hl⊢
  simp only[tokS] at h hl⊢
  split
  ·rename_i hc
   rw[if_pos hc] at h hl
   have:=(tw_cut (w:=wrB) (c::t) r hl).1
   rw[List.cons_append] at this
   rw[this]
  ·rename_i hc
   rw[if_neg hc] at h hl
   split
   ·rename_i hd
    rw[if_pos hd] at h hl
    obtain⟨h1,h2⟩:=tw_cut (w:=diB) (c::t) r hl
    rw[List.cons_append] at h1 h2
    simp only[Bool.and_eq_true] at h
    have h3:=h.2
    have he:edge ((c::t).dropWhile diB)=true:=by
     cases hdw:(c::t).dropWhile diB with
     |nil=>rfl
     |cons d t'=>
      rw[←h2,hdw] at h3
      exact h3
    rw[h1,he,h3]
   ·rename_i hd
    rw[if_neg hd] at h hl
    have hn:firstOf ((c::t)++r) syms≠[]:=by
     rw[List.cons_append]
     simpa using h
    have:=firstOf_cut (u:=c::t) (r:=r) syms hl hn
    rw[List.cons_append] at this
    rw[this]
theorem firstOf_pre(r:List UInt8):∀l:List (List UInt8),firstOf r l<+:r
 |[]=>List.nil_prefix
 |x::l=>by
  simp only[firstOf]
  split
  ·rename_i h
   exact List.isPrefixOf_iff_prefix.1 h
  ·exact firstOf_pre r l
theorem tokS_prefix(r:List UInt8):(tokS r).2.1<+:r:=by
 cases r with
 |nil=>exact List.nil_prefix
 |cons c t=>
  simp only[tokS]
  split
  ·exact List.takeWhile_prefix _
  ·split
   ·exact List.takeWhile_prefix _
   ·exact firstOf_pre _ _
theorem tokS_pos{r:List UInt8}(h:(tokS r).2.2=true):0<(tokS r).2.1.length:=by
 cases r with
 |nil=>cases h
 |cons c t=>
  simp only[tokS] at h⊢
  split
  ·rename_i hc
   have :wrB c=true:=by simp[wrB,hc]
   simp[this]
  ·rename_i hc
   split
   ·rename_i hd
    simp[hd]
   ·rename_i hd
    rw[if_neg hc,if_neg hd] at h
    cases hf:firstOf (c::t) syms with
    |nil=>rw[hf] at h;cases h
    |cons=>simp
theorem tok_len(r:List UInt8):(tokS r).2.1.length≤r.length:=(tokS_prefix r).length_le
theorem lexR_fuel:∀(n m:Nat) (r:List UInt8),r.length<n→r.length<m→lexR n r=lexR m r:=by
 intro n
 induction n with
 |zero=>intro m r h;omega
 |succ n ih=>
  intro m r h1 h2
  obtain⟨m,rfl⟩:∃k,m=k+1:=⟨m-1,by omega⟩
  simp only[lexR]
  have hl:=sk_len false r
  cases hs:sk false r with
  |nil=>rfl
  |cons c t=>
   rw[hs] at hl
   dsimp only
   by_cases hok:(tokS (c::t)).2.2=true
   ·rw[if_pos hok,if_pos hok]
    have hp:=tokS_pos hok
    have hq:=tok_len (c::t)
    rw[ih m _ (by simp only[List.length_drop];omega) (by simp only[List.length_drop];omega)]
   ·rw[if_neg hok,if_neg hok]
def lexL(r:List UInt8):List T0×Option Nat:=lexR (r.length+1) r
theorem lexL_end{r:List UInt8}(h:sk false r=[]):lexL r=([],none):=by
 unfold lexL
 simp only[lexR,h]
theorem lexL_bad{r:List UInt8}(h:sk false r≠[])(hb:(tokS (sk false r)).2.2=false):lexL r=([],some (sk false r).length):=by
 unfold lexL
 simp only[lexR]
 cases hs:sk false r with
 |nil=>exact absurd hs h
 |cons c t=>
  rw[hs] at hb
  dsimp only
  rw[if_neg (by simp[hb])]
def behind(r:List UInt8):List UInt8:=(sk false r).drop (tokS (sk false r)).2.1.length
def nextT(r:List UInt8):T0:=⟨(tokS (sk false r)).1,(tokS (sk false r)).2.1,(sk false r).length⟩
theorem behind_len{r:List UInt8}(hb:(tokS (sk false r)).2.2=true):(behind r).length<r.length:=by
 have h1:=tokS_pos hb
 have h2:=tok_len (sk false r)
 have h3:=sk_len false r
 unfold behind
 rw[List.length_drop]
 omega
theorem lexL_good{r:List UInt8}(hb:(tokS (sk false r)).2.2=true):lexL r=(nextT r::(lexL (behind r)).1,(lexL (behind r)).2):=by
 have hlt:=behind_len hb
 have h3:=sk_len false r
 unfold lexL
 rw[lexR_fuel ((behind r).length+1) r.length (behind r) (by omega) hlt]
 unfold behind nextT
 cases hs:sk false r with
 |nil=>rw[hs] at hb;cases hb
 |cons c t=>
  rw[hs] at hb
  show lexR (r.length+1) r=_
  simp only[lexR,hs]
  rw[if_pos hb]
theorem lexL_sk(r:List UInt8):lexL (sk false r)=lexL r:=by
 have hs:=sk_of_solid (sk_solid false r)
 by_cases h:sk false r=[]
 ·rw[lexL_end h,lexL_end (by rw[h];rfl)]
 ·cases hb:(tokS (sk false r)).2.2 with
  |false=>rw[lexL_bad h hb,lexL_bad (by rw[hs];exact h) (by rw[hs];exact hb),hs]
  |true=>
   rw[lexL_good hb,lexL_good (r:=sk false r) (by rw[hs];exact hb)]
   unfold behind nextT
   rw[hs]
theorem lex_cases(r:List UInt8):sk false r=[]∨(sk false r≠[]∧(tokS (sk false r)).2.2=false)∨(sk false r≠[]∧(tokS (sk false r)).2.2=true):=by
 by_cases h:sk false r=[]
 ·exact .inl h
 ·cases hb:(tokS (sk false r)).2.2 with
  |false=>exact .inr (.inl ⟨h,rfl⟩)
  |true=>exact .inr (.inr ⟨h,rfl⟩)
def T0.up(k:Nat)(t:T0):T0:=⟨t.k,t.t,t.left+k⟩
inductive Cut:List UInt8→List UInt8→List T0→Prop
 |here (r:List UInt8):Cut r r []
 |skip (r:List UInt8):Cut r (sk false r) []
 |step (r v:List UInt8) (l:List T0) (hb:(tokS (sk false r)).2.2=true) (h:Cut (behind r) v l):Cut r v (nextT r::l)
theorem behind_split{r:List UInt8}:sk false r=(tokS (sk false r)).2.1++behind r:=by
 unfold behind
 have:=List.prefix_iff_eq_append.1 (tokS_prefix (sk false r))
 exact this.symm
structure VTok (k:Int) (x:List UInt8):Prop where
 tok:tokS x=(k,x,true)
 hd:∃c t,x=c::t∧blB c=false∧c≠47
theorem syms47:∀x∈syms,x.head?≠some 47:=by decide+kernel
theorem firstOf_mem(r:List UInt8):∀l:List (List UInt8),firstOf r l=[]∨(firstOf r l∈l∧firstOf r l<+:r)
 |[]=>.inl rfl
 |x::l=>by
  simp only[firstOf]
  split
  ·rename_i h
   exact .inr ⟨by simp,List.isPrefixOf_iff_prefix.1 h⟩
  ·rcases firstOf_mem r l with h |⟨h1,h2⟩
   ·exact .inl h
   ·exact .inr ⟨List.mem_cons_of_mem _ h1,h2⟩
theorem prefix_head{c:UInt8}{x t:List UInt8}(h:x<+:c::t)(hx:x≠[]):∃u,x=c::u:=by
 obtain⟨r,hr⟩:=h
 cases x with
 |nil=>exact absurd rfl hx
 |cons d u=>exact⟨u,by rw[List.cons_append] at hr;rw[(List.cons.inj hr).1]⟩
theorem tok_not47{c:UInt8}{t:List UInt8}(h:(tokS (c::t)).2.2=true):c≠47:=by
 intro e
 subst e
 have h1:leB 47=false:=rfl
 have h2:diB 47=false:=rfl
 simp only[tokS,h1,h2,Bool.false_eq_true,if_false] at h
 rcases firstOf_mem (47::t) syms with h3 |⟨h3,h4⟩
 ·rw[h3] at h;cases h
 ·by_cases hx:firstOf (47::t) syms=[]
  ·rw[hx] at h;cases h
  ·obtain⟨u,hu⟩:=prefix_head h4 hx
   have:=syms47 _ h3
   rw[hu] at this
   exact this rfl
theorem vtok_next{r:List UInt8}(hb:(tokS (sk false r)).2.2=true):VTok (nextT r).k (nextT r).t:=by
 have hs:=sk_solid false r
 have hbe:=behind_split (r:=r)
 have hpos:=tokS_pos hb
 have hpre:=tokS_prefix (sk false r)
 unfold nextT
 generalize sk false r=u at *
 generalize behind r=v at *
 have hx:(tokS u).2.1≠[]:=by intro e;rw[e] at hpos;simp at hpos
 cases u with
 |nil=>cases hb
 |cons c t=>
  obtain⟨w,hw⟩:=prefix_head hpre hx
  have h47:=tok_not47 hb
  simp only[solid,Bool.and_eq_true,Bool.not_eq_true'] at hs
  refine⟨?_,c,w,hw,hs.1,h47⟩
  have:=tokS_cut (u:=(tokS (c::t)).2.1) (r:=v) hx (by rw[←hbe];exact hb) (by rw[←hbe];exact Nat.le_refl _)
  rw[←hbe] at this
  show tokS (tokS (c::t)).2.1=_
  rw[this]
  generalize tokS (c::t)=T at *
  obtain⟨k,x,ok⟩:=T
  simp only at hb
  subst hb
  rfl
theorem vtok_all:∀(n:Nat) (r:List UInt8),r.length<n→∀x∈(lexL r).1,VTok x.k x.t:=by
 intro n
 induction n with
 |zero=>intro r h;omega
 |succ n ih=>
  intro r hn x hx
  rcases lex_cases r with h |⟨h,hb⟩ |⟨h,hb⟩
  ·rw[lexL_end h] at hx;cases hx
  ·rw[lexL_bad h hb] at hx;cases hx
  ·rw[lexL_good hb] at hx
   have hlt:=behind_len hb
   rcases List.mem_cons.1 hx with rfl |hx
   ·exact vtok_next hb
   ·exact ih (behind r) (by omega) x hx
theorem lexL_vtok{k:Int}{x g:List UInt8}(h:VTok k x)(hg:blankHead g=true):lexL (x++g)=(⟨k,x,(x++g).length⟩::(lexL g).1,(lexL g).2):=by
 obtain⟨ht,c,t,rfl,hb,h47⟩:=h
 have hs:sk false ((c::t)++g)=(c::t)++g:=by
  refine sk_of_solid ?_
  rw[List.cons_append]
  simp only[solid,hb,Bool.not_false,Bool.true_and]
  have :(c==47)=false:=by simpa using h47
  rw[this];rfl
 have happ:=tokS_app (r:=c::t) (g:=g) (by simp) hg
 rw[ht] at happ
 have hgood:(tokS (sk false ((c::t)++g))).2.2=true:=by rw[hs,happ]
 rw[lexL_good hgood]
 unfold nextT behind
 rw[hs,happ]
 simp
def gapsL:List (List UInt8):=[[32],[10],[9,32],[32,47,47,120,10],[32,32,10,10]]
theorem gap_sk:∀g∈gapsL,∀r,blankHead (g++r)=true∧sk false (g++r)=sk false r:=by
 intro g hg r
 simp only[gapsL,List.mem_cons,List.not_mem_nil,or_false] at hg
 rcases hg with rfl |rfl |rfl |rfl |rfl<;>exact⟨rfl,rfl⟩
theorem lexL_gap{g:List UInt8}(hg:g∈gapsL)(r:List UInt8):lexL (g++r)=lexL r:=by
 rw[←lexL_sk,(gap_sk g hg r).2,lexL_sk]
abbrev GT:=List UInt8×Int×List UInt8
def jn(ps:List GT):List UInt8:=ps.flatMap fun p=>p.1++p.2.2
def Lay(ps:List GT):Prop:=∀p∈ps,p.1∈gapsL∧VTok p.2.1 p.2.2
def tks:List GT→List T0
 |[]=>[]
 |p::r=>⟨p.2.1,p.2.2,(p.2.2++jn r).length⟩::tks r
theorem jn_blank{ps:List GT}(h:Lay ps):blankHead (jn ps)=true:=by
 cases ps with
 |nil=>rfl
 |cons p r=>
  have:=(gap_sk p.1 (h p List.mem_cons_self).1 (p.2.2++jn r)).1
  simpa[jn] using this
theorem lexL_jn:∀(ps:List GT),Lay ps→lexL (jn ps)=(tks ps,none)
 |[],_=>lexL_end rfl
 |p::r,h=>by
  have hr:Lay r:=fun x hx=>h x (List.mem_cons_of_mem _ hx)
  obtain⟨h1,h2⟩:=h p List.mem_cons_self
  have e:jn (p::r)=p.1++(p.2.2++jn r):=by simp[jn]
  rw[e,lexL_gap h1,lexL_vtok h2 (jn_blank hr),lexL_jn r hr]
  rfl
def nowL:Nat→List GT→List Nat
 |_,[]=>[]
 |n,p::r=>(n+p.1.length)::nowL (n+p.1.length+p.2.2.length) r
theorem now_tks:∀(ps:List GT) (n:Nat),(tks ps).map (fun t=>n+(jn ps).length-t.left)=nowL n ps
 |[],n=>rfl
 |p::r,n=>by
  have e:jn (p::r)=p.1++(p.2.2++jn r):=by simp[jn]
  have ih:=now_tks r (n+p.1.length+p.2.2.length)
  have hl:(jn (p::r)).length=p.1.length+(p.2.2.length+(jn r).length):=by rw[e];simp
  simp only[tks,nowL,List.map_cons,List.length_append]
  rw[hl]
  congr 1
  ·omega
  ·rw[←ih]
   refine List.map_congr_left fun t _=>?_
   omega
theorem lex_jn{ps:List GT}(h:Lay ps)(hl:(jn ps).length≤20000):lex (jn ps)=((tks ps).map (T0.tok (jn ps).length),0,0)∧((tks ps).map (T0.tok (jn ps).length)).map (fun x=>(x.k,x.t))=ps.map (·.2)∧((tks ps).map (T0.tok (jn ps).length)).map (·.p)=nowL 0 ps:=by
 refine⟨?_,?_,?_⟩
 ·rw[lex_lexR hl]
  have:=lexL_jn ps h
  unfold lexL at this
  rw[this]
  rfl
 ·rw[List.map_map]
  have :∀ps:List GT,∀n,(tks ps).map ((fun x:Tok=>(x.k,x.t))∘T0.tok n)=ps.map (·.2):=by
   intro ps
   induction ps with
   |nil=>intro n;rfl
   |cons p r ih=>intro n;simp only[tks,List.map_cons,ih];rfl
  exact this ps _
 ·rw[List.map_map,←now_tks ps 0]
  refine List.map_congr_left fun t _=>?_
  show(jn ps).length-t.left=0+(jn ps).length-t.left
  omega
theorem lex_vtok{s:List UInt8}(hs:s.length≤20000)(he:(lex s).2.1=0):∀x∈(lex s).1,VTok x.k x.t:=by
 rw[lex_lexR hs] at he⊢
 have hv:=vtok_all (s.length+1) s (by omega)
 unfold lexL at hv
 unfold asLexed at he⊢
 split at he
 ·intro x hx
  simp only[List.nil_append,List.mem_map] at hx
  obtain⟨t,ht,rfl⟩:=hx
  exact hv t ht
 ·cases he
end Go.Proofs.YtalgjkpkkdljaaaGreatDoor.Lx
namespace Go.Proofs.YtalgjkpkkdljaaaGreatDoor
open Go.Vs
def ofS(ts:List Tok)(e:Nat)(l:List Nat)(i:Nat):St:=⟨[(0,.p (.slice 3 (ts.map Tok.pd))),(1,.p (.int .i64 e)),(5,.tsl 0 3 1 (l.map iPD)),(6,.p (.int .i64 i))],⟨[],[l.length]⟩⟩
theorem of_step{ts:List Tok}{e i:Nat}(hn:ts.length≤1000000)(hi:i<ts.length):evS (call pg) pg.G iterX fc27_b0 (ofS ts e ((ts.take i).map (·.p)) i)=some (.norm,ofS ts e ((ts.take (i+1)).map (·.p)) (i+1)):=by
 have hr:=row_slice 3 (ts.map Tok.pd)
 have hl:=hr.len
 rw[List.length_map] at hl
 have ha:=hr.at_ i (Tok.pd ts[i]) (by simp[hi])
 have hc:(Tok.pd ts[i]).cells=[.int .i64 ts[i].k,.str ts[i].t,.int .i64 ts[i].p]:=by simp[Tok.pd,PD.cells]
 rw[hc] at ha
 have hld:=fun G H=>ld_c (G:=G) (H:=H) (l:=[.int .i64 ts[i].k,.str ts[i].t,.int .i64 ts[i].p]) (o:=2) (x:=.int .i64 ts[i].p) rfl rfl
 have hlt:(i:Int)<(ts.length:Int):=by omega
 have hw:=inc64 (k:=i) (by omega)
 have ek:((i+1 :Nat):Int)=(i:Int)+1:=rfl
 rw[ek] at hw
 have ht:(ts.take (i+1)).map (·.p)=(ts.take i).map (·.p)++[ts[i].p]:=by rw[List.take_add_one,List.getElem?_eq_getElem hi,List.map_append];rfl
 have hln:((ts.take i).map (·.p)).length=i:=by simp;omega
 rw[ht]
 generalize (ts.take i).map (·.p)=l at *
 generalize ts[i]=x at *
 have hroom:roomy (l.length+1) 8=true:=by simp only[roomy,Bool.and_eq_true,decide_eq_true_eq];omega
 simp only[ofS,ek,List.map_append,List.map_cons,List.map_nil,List.length_append,List.length_cons,List.length_nil,Nat.zero_add]
 simp[fc27_b0,evKC,evK,put,Env.get,Env.keep,Opd.ev,D.asInt?,binD,mapO,PD.one,PD.cells,fillE,appendD,srcD,D.elems?,D.asPD,srcH,D.ren,locD,below,Out.ren,List.map,hl,hlt,ha,hld,hw,hroom,iPD]
def ofP(ts:List Tok)(e i:Nat):St:=ofS ts e ((ts.take i).map (·.p)) i
def OfQ(ts:List Tok)(e:Nat)(s':St):Prop:=s'.hp=⟨[],[ts.length]⟩∧s'.env.get 5= .tsl 0 3 1 ((ts.map (·.p)).map iPD)∧s'.env.get 1= .p (.int .i64 e)
theorem of_end(ts:List Tok)(e:Nat):∃s',evS (call pg) pg.G iterX fc27_b0 (ofS ts e (ts.map (·.p)) ts.length)=some (.exit 0,s')∧OfQ ts e s':=by
 unfold OfQ
 have hr:=row_slice 3 (ts.map Tok.pd)
 have hl:=hr.len
 rw[List.length_map] at hl
 have hln:(ts.map (·.p)).length=ts.length:=List.length_map ..
 generalize ts.map (·.p)=l at *
 refine⟨?_,?_,?_⟩
 rotate_left
 ·simp only[ofS,hln]
  simp[fc27_b0,evKC,evK,put,Env.get,Env.keep,Opd.ev,binD,mapO,D.ren,locD,below,Out.ren,List.map,hl]
  rfl
 ·exact⟨rfl,rfl,rfl⟩
theorem of_keep(ts:List Tok)(e:Nat)(l:List Nat)(i:Nat):(ofS ts e l i).env.keep [0,1,5,6]=(ofS ts e l i).env:=rfl
theorem of_loop(ts:List Tok)(e:Nat)(hn:ts.length≤1000000):∃s',loopK (call pg) pg.G [0,1,5,6] fc27_b0 (ofP ts e 0)=some (.exit 0,s')∧OfQ ts e s':=by
 have hst:∀i,i<ts.length→evS (call pg) pg.G iterX fc27_b0 (ofP ts e i)=some (.norm,ofP ts e (i+1)):=fun i hi=>of_step hn hi
 have h:=lp_well (keep:=[0,1,5,6]) (b:=fc27_b0) (n:=ts.length) (P:=ofP ts e) (o:=0) (Q:=OfQ ts e) (fun _=>of_keep ..) (by unfold ofP;rw[List.take_length];exact of_end ts e) hst ts.length 0 (by omega) (by omega)
 exact h
theorem of_fin(ts:List Tok)(e:Nat)(hn:ts.length≤1000000):finish pg.G fc27.res (evS (call pg) pg.G iterX fc27.body ⟨entry 0 [.p (.slice 3 (ts.map Tok.pd)),.p (.int .i64 e)],⟨[],[]⟩⟩)=some (.val (.tsl 0 3 1 ((ts.map (·.p)++[e]).map iPD)),⟨[],[ts.length+1]⟩):=by
 obtain⟨⟨env,hp⟩,e1,hq1,hq2,hq3⟩:=of_loop ts e hn
 simp only at hq1 hq2 hq3
 subst hq1
 have hroom:roomy (ts.length+1) 8=true:=by simp only[roomy,Bool.and_eq_true,decide_eq_true_eq];omega
 simp only[ofP,ofS,List.take_zero,Int.natCast_zero,List.map_nil,List.length_nil] at e1
 rw[List.map_append]
 have hln2:((ts.map (·.p)).map iPD).length=ts.length:=by rw[List.length_map,List.length_map]
 generalize (ts.map (·.p)).map iPD=l at *
 simp[fc27,evKC,evK,put,Env.keep,entry,Opd.ev,finish,evRes,evRes1,PD.one,PD.cells,fillE,appendD,srcD,D.elems?,D.asPD,srcH,List.map,tokD,e1,hq2,hq3,hln2,hroom,iPD,Env.get]
theorem offs_eq(ts:List Tok)(e:Nat)(hn:ts.length≤1000000)(H:Hp):callD (call pg) 27 [.p (.slice 3 (ts.map Tok.pd)),.p (.int .i64 e)] H=some (.val (.p (.slice 1 ((ts.map (·.p)++[e]).map iPD))),H):=by
 have hL:∃x r,(ts.map (·.p)++[e]).map iPD=x::r:=by
  cases ts with
  |nil=>exact⟨_,_,rfl⟩
  |cons x ts=>exact⟨_,_,rfl⟩
 have hb:=of_fin ts e hn
 obtain⟨x,r,hx⟩:=hL
 rw[hx] at hb⊢
 exact callD_any (d:=.tsl 0 3 1 (x::r)) ⟨⟨[],[ts.length+1]⟩,call_frz (fc:=fc27) rfl rfl rfl rfl hb (seal0 rfl)⟩ rfl rfl rfl rfl H
def mt(p p':Nat)(o n:List Nat)(k:Nat):Bool:=((o.zip n).take k).any (fun x=>x.1==p&&x.2==p')
theorem mt_succ{p p':Nat}{o n:List Nat}{k:Nat}(h1:k<o.length)(h2:k<n.length):mt p p' o n (k+1)=(mt p p' o n k||(o[k]==p&&n[k]==p')):=by
 unfold mt
 rw[List.take_add_one,List.getElem?_eq_getElem (by simp;omega)]
 simp
theorem mt_all{p p':Nat}{o n:List Nat}{k m:Nat}(h1:o[k]? =some p)(h2:n[k]? =some p')(hk:k<m):mt p p' o n m=true:=by
 unfold mt
 rw[List.any_eq_true]
 refine⟨(p,p'),?_,by simp⟩
 have h3:(o.zip n)[k]? =some (p,p'):=by simp[List.getElem?_zip_eq_some,h1,h2]
 obtain⟨h4,h5⟩:=List.getElem?_eq_some_iff.1 h3
 rw[List.mem_take_iff_getElem]
 exact⟨k,by omega,h5⟩
def mvS(d d':PD)(o n:List Nat)(i:Nat)(r:Env):St:=⟨(0,.p d)::(1,.p d')::(2,.p (.slice 1 (o.map iPD)))::(3,.tsl 0 3 1 (n.map iPD))::(9,.p (.int .i64 i))::r,⟨[],[n.length]⟩⟩
section
variable {d d' : PD} {f g : List PD} {o n : List Nat} (hd : Row 2 d f) (hd' : Row 2 d' g) (hl : o.length = n.length) (hn : n.length ≤ 1000000) (hf : f.length ≤ 1000) {i : Nat} {e : Int} {p p' : Nat}
 (hfi:f[i]? =some (dg e p)) (hgi:g[i]? =some (dg e p'))
theorem tsl_at{n:List Nat}{k:Nat}(hk:k<n.length):iaddrD none 1 (.tsl 0 3 1 (n.map iPD)) (k:Int)=some (.ro [.int .i64 n[k]] 0):=by
 have :(n.map iPD)[k]? =some (iPD n[k]):=by simp[hk]
 simp[iaddrD,D.elems?,this,iPD,PD.cells]
include hd hd' hl hn hfi hgi in
theorem mv_in{k:Nat}(hk:k<n.length):evS (call pg) pg.G iterX fc30_b0 (mvS d d' o n i [(10,.p (.bool (mt p p' o n k))),(11,.p (.int .i64 k))])=some (.norm,mvS d d' o n i [(10,.p (.bool (mt p p' o n (k+1)))),(11,.p (.int .i64 ((k+1 :Nat):Int)))]):=by
 have ha:=hd.at_ i _ hfi
 have hb:=hd'.at_ i _ hgi
 have hc:∀p:Nat,(dg e p).cells=[.int .i64 e,.int .i64 p]:=fun p=>by simp[dg,PD.cells]
 rw[hc] at ha hb
 have l1:∀G H (p:Nat),loadD G H none (.ro [.int .i64 e,.int .i64 p] 1)=some (.p (.int .i64 p)):=fun _ _ _=>rfl
 have l2:∀G H (p:Nat),loadD G H none (.ro [.int .i64 p] 0)=some (.p (.int .i64 p)):=fun _ _ _=>rfl
 have ho:=(row_slice 1 (o.map iPD))
 have lo:=ho.len
 rw[List.length_map] at lo
 have hko:k<o.length:=by omega
 have hao:=ho.at_ k (iPD o[k]) (by simp[hko])
 have hco:(iPD o[k]).cells=[.int .i64 o[k]]:=by simp[iPD,PD.cells]
 rw[hco] at hao
 have han:=tsl_at hk
 have hlt:(k:Int)<(o.length:Int):=by omega
 have hw:=inc64 (k:=k) (by omega)
 have ek:((k+1 :Nat):Int)=(k:Int)+1:=rfl
 rw[ek] at hw
 rw[mt_succ hko hk]
 have hb1:((p:Int)==(o[k]:Int))=(o[k]==p):=by
  rw[Bool.eq_iff_iff];simp only[beq_iff_eq];omega
 have hb2:((p':Int)==(n[k]:Int))=(n[k]==p'):=by
  rw[Bool.eq_iff_iff];simp only[beq_iff_eq];omega
 generalize mt p p' o n k=m at *
 generalize hx:(o[k]==p)=bx at *
 generalize hy:(n[k]==p')=by_ at *
 generalize o[k]=ok at *
 generalize n[k]=nk at *
 simp only[mvS,ek]
 rcases m with _ |_
 ·rcases bx with _ |_
  ·simp[fc30_b0,evKC,evK,evGuard,put,Env.get,Env.keep,Opd.ev,D.asInt?,binD,clsP,cls,isW,apartRW,offB,apartWW,clash,insOk,lo,hlt,hw,ha,hao,l1,l2,hb1]
  ·rcases by_ with _ |_
   ·simp[fc30_b0,evKC,evK,evGuard,put,Env.get,Env.keep,Opd.ev,D.asInt?,binD,clsP,cls,isW,apartRW,offB,apartWW,clash,insOk,lo,hlt,hw,ha,hb,hao,han,l1,l2,hb1,hb2]
   ·simp[fc30_b0,evKC,evK,evGuard,put,Env.get,Env.keep,Opd.ev,D.asInt?,binD,clsP,cls,isW,apartRW,offB,apartWW,clash,insOk,lo,hlt,hw,ha,hb,hao,han,l1,l2,hb1,hb2]
 ·simp[fc30_b0,evKC,evK,evGuard,put,Env.get,Env.keep,Opd.ev,binD,clsP,cls,isW,apartRW,offB,apartWW,clash,insOk,lo,hlt,hw]
def MvQ(d d':PD)(o n:List Nat)(i:Nat)(s':St):Prop:=s'.hp=⟨[],[n.length]⟩∧s'.env.get 0= .p d∧s'.env.get 1= .p d'∧s'.env.get 2= .p (.slice 1 (o.map iPD))∧s'.env.get 3= .tsl 0 3 1 (n.map iPD)∧s'.env.get 9= .p (.int .i64 i)∧s'.env.get 10= .p (.bool true)
include hd hd' hl hn hf hfi hgi in
theorem mv_out{k:Nat}(h1:o[k]? =some p)(h2:n[k]? =some p'):evS (call pg) pg.G iterX fc30_b1 (mvS d d' o n i [])=some (.norm,mvS d d' o n (i+1) []):=by
 have ho:=(row_slice 1 (o.map iPD))
 have lo:=ho.len
 rw[List.length_map] at lo
 have hkn:=(List.getElem?_eq_some_iff.1 h2).1
 have hi:=(List.getElem?_eq_some_iff.1 hfi).1
 obtain⟨s',e1,q1,q2,q3,q4,q5,q6,q7⟩:=lp_well (keep:=[0,1,2,3,9,10,11]) (b:=fc30_b0) (n:=o.length) (P:=fun k=>mvS d d' o n i [(10,.p (.bool (mt p p' o n k))),(11,.p (.int .i64 k))]) (o:=2) (Q:=MvQ d d' o n i) (fun _=>rfl) (by
  rw[mt_all h1 h2 (by omega)]
  refine⟨?_,?_,?_⟩
  rotate_left
  ·simp only[mvS]
   simp[fc30_b0,evKC,evK,put,Env.get,Env.keep,Opd.ev,binD,lo]
   rfl
  ·exact⟨rfl,rfl,rfl,rfl,rfl,rfl,rfl⟩) (fun k hk=>mv_in hd hd' hl hn hfi hgi (by omega)) o.length 0 (by omega) (by omega)
 obtain⟨env,hp⟩:=s'
 simp only at q1 q2 q3 q4 q5 q6 q7
 subst q1
 rw[show mt p p' o n 0=false from rfl] at e1
 have ha:=hd.at_ i _ hfi
 have hb:=hd'.at_ i _ hgi
 have hc:∀p:Nat,(dg e p).cells=[.int .i64 e,.int .i64 p]:=fun p=>by simp[dg,PD.cells]
 rw[hc] at ha hb
 have l0:∀G H (p:Nat),loadD G H none (.ro [.int .i64 e,.int .i64 p] 0)=some (.p (.int .i64 e)):=fun _ _ _=>rfl
 have lf:=hd.len
 have hlt:(i:Int)<(f.length:Int):=by omega
 have hw:=inc64 (k:=i) (by omega)
 have ek:((i+1 :Nat):Int)=(i:Int)+1:=rfl
 rw[ek] at hw
 simp only[mvS,Int.natCast_zero,ek] at e1⊢
 simp[fc30_b1,evKC,evK,evGuard,put,Env.keep,Opd.ev,D.asInt?,binD,unD,clsP,cls,isW,apartRW,offB,apartWW,clash,insOk,lf,hlt,e1,q2,q3,q4,q5,q6,q7,ha,hb,l0,hw,Env.get]
end
theorem callD_tok4{f:Nat}{a b c x:PD}{t e sz:Nat}{l:List PD}{n:Nat}{H:Hp}(ht:H.tk[t]? =some n)(h:∃Hl:Hp,Hl.tk=[n]∧call pg f [.p a,.p b,.p c,.tsl 0 e sz l] ⟨[],[n]⟩=some (.val (.p x),Hl)):
    callD (call pg) f [.p a,.p b,.p c,.tsl t e sz l] H=some (.val (.p x),H):=by
 obtain⟨⟨bx,tk⟩,h1,h⟩:=h
 simp only at h1
 subst h1
 have hreach:∀n,reach H n []=[]:=by
  intro n
  cases n<;>simp[reach,boxRefs]
 have hi:idx [t] t=some 0:=by simp[idx]
 have hset:H.tk.set t n=H.tk:=by
  apply List.ext_getElem?
  intro j
  rw[List.getElem?_set]
  split
  ·rename_i q;subst q;rw[ht];rw[if_pos (List.getElem?_eq_some_iff.1 ht).1]
  ·rfl
 unfold callD
 simp[D.refsL,D.toksL,D.refs,D.toks,ins,hreach,boxToks,Vs.nodupB,mapO,D.renL,D.ren,hi,ht,h,back,firstN,Res.ren,putAll,hset]
theorem moved_eq{d d':PD}{f g:List PD}{o n:List Nat}(hd:Row 2 d f)(hd':Row 2 d' g)(hl:o.length=n.length)(hn:n.length≤1000000)(hf:f.length≤1000)(hfg:f.length=g.length)
    (hall:∀i,i<f.length→∃(e:Int) (p p' k:Nat),f[i]? =some (dg e p)∧g[i]? =some (dg e p')∧o[k]? =some p∧n[k]? =some p') {t:Nat} {H:Hp} (ht:H.tk[t]? =some n.length):
    callD (call pg) 30 [.p d,.p d',.p (.slice 1 (o.map iPD)),.tsl t 3 1 (n.map iPD)] H=some (.val (.p (.bool true)),H):=by
 have ho:=(row_slice 1 (o.map iPD))
 have lo:=ho.len
 rw[List.length_map] at lo
 have lf:=hd.len
 have lg:=hd'.len
 obtain⟨s',e1,q1⟩:=lp_well (keep:=[0,1,2,3,9]) (b:=fc30_b1) (n:=f.length) (P:=fun i=>mvS d d' o n i []) (o:=0) (Q:=fun s'=>s'.hp=⟨[],[n.length]⟩) (fun _=>rfl) (by
  refine⟨?_,?_,?_⟩
  rotate_left
  ·simp only[mvS]
   simp[fc30_b1,evKC,evK,put,Env.get,Env.keep,Opd.ev,binD,lf]
   rfl
  ·rfl) (fun i hi=>by
  obtain⟨e,p,p',k,h1,h2,h3,h4⟩:=hall i hi
  exact mv_out hd hd' hl hn hf h1 h2 h3 h4) f.length 0 (by omega) (by omega)
 obtain⟨env,hp⟩:=s'
 simp only at q1
 subst q1
 refine callD_tok4 ht ⟨⟨[],[n.length]⟩,rfl,call_body (fc:=fc30) rfl rfl rfl rfl ?_⟩
 simp only[mvS,Int.natCast_zero] at e1
 have ln:lenD 1 (.tsl 0 3 1 (n.map iPD))=some n.length:=by rw[lenD_tsl,List.length_map]
 rw[hl] at lo
 rw[←hfg] at lg
 simp[fc30,evKC,evK,evGuard,put,Env.get,Env.keep,entry,Opd.ev,binD,finish,evRes,evRes1,lo,lf,lg,ln,e1]
end Go.Proofs.YtalgjkpkkdljaaaGreatDoor
namespace Go.Proofs.YtalgjkpkkdljaaaGreatDoor
open Go.Vs
def gk(how:List UInt8)(i:Nat):Nat:=match how[i]? with |some b=>b.toNat%5 |none=>0
def gp(how:List UInt8)(i:Nat):List UInt8:=(Lx.gapsL[gk how i]?).getD []
theorem gk_lt(how:List UInt8)(i:Nat):gk how i<5:=by
 unfold gk
 split
 ·exact Nat.mod_lt _ (by decide)
 ·decide
theorem gp_mem(how:List UInt8)(i:Nat):gp how i∈Lx.gapsL:=by
 have h:gk how i<Lx.gapsL.length:=gk_lt how i
 unfold gp
 rw[List.getElem?_eq_getElem h]
 exact List.getElem_mem h
theorem gap_len:∀g∈Lx.gapsL,g.length≤5:=by decide
def psL(how:List UInt8):Nat→List Tok→List Lx.GT
 |_,[]=>[]
 |i,x::r=>(gp how i,x.k,x.t)::psL how (i+1) r
theorem psL_app(how:List UInt8)(x:Tok):∀(l:List Tok) (i:Nat),psL how i (l++[x])=psL how i l++[(gp how (i+l.length),x.k,x.t)]
 |[],i=>rfl
 |y::l,i=>by
  simp only[List.cons_append,psL,psL_app how x l (i+1),List.length_cons]
  rw[show i+1+l.length=i+(l.length+1) by omega]
theorem psL_len(how:List UInt8):∀(l:List Tok) (i:Nat),(psL how i l).length=l.length
 |[],_=>rfl
 |_::l,i=>by simp[psL,psL_len how l (i+1)]
theorem psL_kt(how:List UInt8):∀(l:List Tok) (i:Nat),(psL how i l).map (·.2)=l.map (fun x=>(x.k,x.t))
 |[],_=>rfl
 |_::l,i=>by simp[psL,psL_kt how l (i+1)]
theorem jn_app(a b:List Lx.GT):Lx.jn (a++b)=Lx.jn a++Lx.jn b:=by simp[Lx.jn]
theorem now_app(p:Lx.GT):∀(a:List Lx.GT) (n:Nat),Lx.nowL n (a++[p])=Lx.nowL n a++[n+(Lx.jn a).length+p.1.length]
 |[],n=>by simp[Lx.nowL,Lx.jn]
 |q::a,n=>by
  simp only[List.cons_append,Lx.nowL,now_app p a]
  congr 3
  simp only[Lx.jn,List.flatMap_cons,List.length_append]
  omega
theorem now_len:∀(a:List Lx.GT) (n:Nat),(Lx.nowL n a).length=a.length
 |[],_=>rfl
 |_::a,n=>by simp[Lx.nowL,now_len a]
def lyT(how:List UInt8)(ts:List Tok)(i:Nat):List UInt8:=Lx.jn (psL how 0 (ts.take i))
def lyN(how:List UInt8)(ts:List Tok)(i:Nat):List Nat:=Lx.nowL 0 (psL how 0 (ts.take i))
theorem ly_succ{how:List UInt8}{ts:List Tok}{i:Nat}(hi:i<ts.length):psL how 0 (ts.take (i+1))=psL how 0 (ts.take i)++[(gp how i,ts[i].k,ts[i].t)]:=by
 rw[List.take_add_one,List.getElem?_eq_getElem hi]
 show psL how 0 (ts.take i++[ts[i]])=_
 rw[psL_app]
 congr 3
 simp;rw[Nat.min_eq_left (by omega)]
theorem lyT_succ{how:List UInt8}{ts:List Tok}{i:Nat}(hi:i<ts.length):lyT how ts (i+1)=lyT how ts i++gp how i++ts[i].t:=by
 unfold lyT
 rw[ly_succ hi,jn_app]
 simp[Lx.jn]
theorem lyN_succ{how:List UInt8}{ts:List Tok}{i:Nat}(hi:i<ts.length):lyN how ts (i+1)=lyN how ts i++[(lyT how ts i++gp how i).length]:=by
 unfold lyN lyT
 rw[ly_succ hi,now_app]
 simp
theorem lyN_len(how:List UInt8)(ts:List Tok)(i:Nat)(hi:i≤ts.length):(lyN how ts i).length=i:=by
 unfold lyN
 rw[now_len,psL_len]
 simp;omega
theorem first_stop(p:Nat→Prop)[DecidablePred p]:∀N:Nat,∃n,n≤N∧(n=N∨p n)∧∀i,i<n→¬p i
 | 0=>⟨0,Nat.le_refl _,.inl rfl,fun i h=>absurd h (Nat.not_lt_zero _)⟩
 |N+1=>by
  obtain⟨n,h1,h2,h3⟩:=first_stop p N
  by_cases hp:p n
  ·exact⟨n,by omega,.inr hp,h3⟩
  ·rcases h2 with rfl |h2
   ·exact⟨n+1,Nat.le_refl _,.inl rfl,fun i hi=>by
     rcases Nat.lt_or_ge i n with q |q
     ·exact h3 i q
     ·rw[show i=n by omega];exact hp⟩
   ·exact absurd h2 hp
def uPD(b:UInt8):PD:=.int .u8 b.toNat
def gapsD:D:=.fsl 9 1 [.str [32],.str [10],.str [9,32],.str [32,47,47,120,10],.str [32,32,10,10]]
def lyS(s:List UInt8)(w:PD)(ts:List Tok)(old:List PD)(t:List UInt8)(now:List Nat)(i:Nat):St:=
 ⟨[(0,.p (.str s)),(1,.p w),(5,.p (.bool true)),(6,.p (.slice 3 (ts.map Tok.pd))),(9,gapsD),(10,.p (.str t)),(11,.p (.slice 1 old)),(12,.tsl 0 3 1 (now.map iPD)),(13,.p (.int .i64 i))],⟨[],[now.length]⟩⟩
theorem gaps_at(how:List UInt8)(i:Nat):iaddrD none 1 gapsD (gk how i:Int)=some (.ro [.str (gp how i)] 0):=by
 have h:=gk_lt how i
 unfold gp
 generalize gk how i=k at *
 match k,h with
 | 0,_=>rfl
 | 1,_=>rfl
 | 2,_=>rfl
 | 3,_=>rfl
 | 4,_=>rfl
theorem rem5(b:UInt8):((b.toNat:Int)).tmod 5=((b.toNat%5 :Nat):Int):=by
 rw[show(5 :Int)=((5 :Nat):Int) from rfl,←Int.ofNat_tmod]
theorem wrap8(b:UInt8):IntKind.i64.wrap (b.toNat:Int)=(b.toNat:Int):=wrap64 (by omega) (by have:=b.toNat_lt;omega)
section
variable {s : List UInt8} {w : PD} {how : List UInt8} {ts : List Tok} {old : List PD} (hw : Row 1 w (how.map uPD)) (hn : ts.length ≤ 20000) (ht : ∀ x ∈ ts, x.t.length ≤ 1000000)
include hw hn ht in
theorem ly_step{i:Nat}(hi:i<ts.length)(hlt:(lyT how ts i).length<16000):evS (call pg) pg.G iterX fc6_b0 (lyS s w ts old (lyT how ts i) (lyN how ts i) i)=some (.norm,lyS s w ts old (lyT how ts (i+1)) (lyN how ts (i+1)) (i+1)):=by
 have hr:=row_slice 3 (ts.map Tok.pd)
 have hl:=hr.len
 rw[List.length_map] at hl
 have ha:=hr.at_ i (Tok.pd ts[i]) (by simp[hi])
 have hc:(Tok.pd ts[i]).cells=[.int .i64 ts[i].k,.str ts[i].t,.int .i64 ts[i].p]:=by simp[Tok.pd,PD.cells]
 rw[hc] at ha
 have hld:=fun G H=>ld_c (G:=G) (H:=H) (l:=[.int .i64 ts[i].k,.str ts[i].t,.int .i64 ts[i].p]) (o:=1) (x:=.str ts[i].t) rfl rfl
 have hlS:∀G H (x:List UInt8),loadD G H none (.ro [.str x] 0)=some (.p (.str x)):=fun _ _ _=>rfl
 have hg:=gaps_at how i
 have hti:(i:Int)<(ts.length:Int):=by omega
 have hin:=inc64 (k:=i) (by omega)
 have ek:((i+1 :Nat):Int)=(i:Int)+1:=rfl
 rw[ek] at hin
 have hT:=lyT_succ (how:=how) hi
 have hN:=lyN_succ (how:=how) hi
 have hnl:=lyN_len how ts i (by omega)
 rw[hT,hN]
 generalize lyN how ts i=now at *
 generalize lyT how ts i=t at *
 have hxt:=ht _ (List.getElem_mem hi)
 generalize ts[i]=x at *
 have hg5:(gp how i).length≤5:=gap_len _ (gp_mem how i)
 have hs1:t.length+(gp how i).length≤140737488355328:=by omega
 have hs2:t.length+(gp how i).length+x.t.length≤140737488355328:=by omega
 have hl16:(t.length:Int)<16000:=by omega
 have hroom:roomy (now.length+1) 8=true:=by simp only[roomy,Bool.and_eq_true,decide_eq_true_eq];omega
 have lw:=hw.len
 rw[List.length_map] at lw
 by_cases hb:i<how.length
 ·have hbt:(i:Int)<(how.length:Int):=by omega
  have hbw:=hw.at_ i (uPD how[i]) (by simp[hb])
  have hcu:(uPD how[i]).cells=[.int .u8 how[i].toNat]:=by simp[uPD,PD.cells]
  rw[hcu] at hbw
  have hlu:∀G H (b:Int),loadD G H none (.ro [.int .u8 b] 0)=some (.p (.int .u8 b)):=fun _ _ _=>rfl
  have hrem:=rem5 how[i]
  have hw8:=wrap8 how[i]
  have hgk:gk how i=how[i].toNat%5:=by unfold gk;rw[List.getElem?_eq_getElem hb]
  rw[hgk] at hg
  generalize how[i]=b at *
  generalize ((b.toNat%5 :Nat):Int)=m at *
  simp only[lyS,ek]
  have hgr:(D.ren (below 0) (below 1) gapsD).getD D.dead=gapsD:=rfl
  simp[fc6_b0,evKC,evK,evGuard,put,Env.get,Env.keep,Opd.ev,D.asInt?,binD,strBin,mapO,PD.one,PD.cells,fillE,appendD,srcD,D.elems?,D.asPD,srcH,D.ren,locD,below,Out.ren,List.map,hgr,hl,hti,hl16,lw,hbt,hbw,hlu,hrem,hw8,lenD_str,hs1,hs2,hg,hlS,ha,hld,hin,hroom,iPD]
 ·have hbt:¬(i:Int)<(how.length:Int):=by omega
  have hgk:gk how i=0:=by unfold gk;rw[List.getElem?_eq_none (by omega)]
  rw[hgk] at hg
  simp only[Int.natCast_zero] at hg
  simp only[lyS,ek]
  have hgr:(D.ren (below 0) (below 1) gapsD).getD D.dead=gapsD:=rfl
  simp[fc6_b0,evKC,evK,evGuard,put,Env.get,Env.keep,Opd.ev,D.asInt?,binD,strBin,mapO,PD.one,PD.cells,fillE,appendD,srcD,D.elems?,D.asPD,srcH,D.ren,locD,below,Out.ren,List.map,hgr,hl,hti,hl16,lw,hbt,lenD_str,hs1,hs2,hg,hlS,ha,hld,hin,hroom,iPD]
def LyQ(s:List UInt8)(ts:List Tok)(old:List PD)(t:List UInt8)(now:List Nat)(s':St):Prop:=
 s'.hp=⟨[],[now.length]⟩∧s'.env.get 0= .p (.str s)∧s'.env.get 5= .p (.bool true)∧s'.env.get 6= .p (.slice 3 (ts.map Tok.pd))∧s'.env.get 10= .p (.str t)∧s'.env.get 11= .p (.slice 1 old)∧s'.env.get 12= .tsl 0 3 1 (now.map iPD)
theorem ly_end{s:List UInt8}{w:PD}{ts:List Tok}{old:List PD}{t:List UInt8}{now:List Nat}{n:Nat}(h:n=ts.length∨(n<ts.length∧16000≤t.length)):∃s',evS (call pg) pg.G iterX fc6_b0 (lyS s w ts old t now n)=some (.exit 0,s')∧LyQ s ts old t now s':=by
 have hr:=row_slice 3 (ts.map Tok.pd)
 have hl:=hr.len
 rw[List.length_map] at hl
 have hgr:(D.ren (below 0) (below 1) gapsD).getD D.dead=gapsD:=rfl
 unfold LyQ
 rcases h with rfl |⟨h1,h2⟩
 ·refine⟨?_,?_,?_⟩
  rotate_left
  ·simp only[lyS]
   simp[fc6_b0,evKC,evK,evGuard,put,Env.get,Env.keep,Opd.ev,binD,mapO,D.ren,locD,below,Out.ren,List.map,hl,hgr]
   rfl
  ·exact⟨rfl,rfl,rfl,rfl,rfl,rfl,rfl⟩
 ·have hti:(n:Int)<(ts.length:Int):=by omega
  have hl16:¬(t.length:Int)<16000:=by omega
  refine⟨?_,?_,?_⟩
  rotate_left
  ·simp only[lyS]
   simp[fc6_b0,evKC,evK,evGuard,put,Env.get,Env.keep,Opd.ev,binD,mapO,D.ren,locD,below,Out.ren,List.map,hl,hgr,hti,hl16,lenD_str]
   rfl
  ·exact⟨rfl,rfl,rfl,rfl,rfl,rfl,rfl⟩
theorem ly_keep(s:List UInt8)(w:PD)(ts:List Tok)(old:List PD)(t:List UInt8)(now:List Nat)(i:Nat):(lyS s w ts old t now i).env.keep [0,1,5,6,9,10,11,12,13]=(lyS s w ts old t now i).env:=rfl
def lyP(how:List UInt8)(s:List UInt8)(w:PD)(ts:List Tok)(old:List PD)(i:Nat):St:=lyS s w ts old (lyT how ts i) (lyN how ts i) i
include hw hn ht in
theorem ly_loop:∃n,n≤ts.length∧(n=ts.length∨16000≤(lyT how ts n).length)∧(∀i,i<n→(lyT how ts i).length<16000)∧∃s',loopK (call pg) pg.G [0,1,5,6,9,10,11,12,13] fc6_b0 (lyP how s w ts old 0)=some (.exit 0,s')∧LyQ s ts old (lyT how ts n) (lyN how ts n) s':=by
 obtain⟨n,h1,h2,h3⟩:=first_stop (fun i=>16000≤(lyT how ts i).length) ts.length
 refine⟨n,h1,h2,fun i hi=>by have:=h3 i hi;omega,?_⟩
 have hst:∀i,i<n→evS (call pg) pg.G iterX fc6_b0 (lyP how s w ts old i)=some (.norm,lyP how s w ts old (i+1)):=fun i hi=>ly_step hw hn ht (by omega) (by have:=h3 i hi;omega)
 have h:=lp_well (keep:=[0,1,5,6,9,10,11,12,13]) (b:=fc6_b0) (n:=n) (P:=lyP how s w ts old) (o:=0) (Q:=LyQ s ts old (lyT how ts n) (lyN how ts n)) (fun _=>ly_keep ..) (ly_end (by
  rcases h2 with q |q
  ·exact .inl q
  ·rcases Nat.lt_or_ge n ts.length with r |r
   ·exact .inr ⟨r,q⟩
   ·exact .inl (by omega))) hst n 0 (by omega) (by omega)
 exact h
end
end Go.Proofs.YtalgjkpkkdljaaaGreatDoor
