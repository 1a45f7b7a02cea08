/-
  A value-level evaluator for Go functions; the functions of this cut by it; plain laws. Part 6 of 6.
-/
import Derived.Test.YtalgjkpkkdljaaaGreatDoorG5
import Derived.Test.YtalgjkpkkdljaaaGreatDoorG4
import Derived.KernelRfl
namespace Go.Proofs.YtalgjkpkkdljaaaGreatDoor
open Go.Vs
def sepM(c:Rd)(l:List (List UInt8×Nat))(a:Nat):PR Unit:=if l=[] then .ok () a else expectP c a [44]
def paramsP(c:Rd)(S:List (List UInt8×Bool)):Nat→List (List UInt8×Nat)→Nat→PR (List (List UInt8×Nat))
 | 0,l,a=>.ok l a
 |n+1,l,a=>if acceptB c a [93] then .ok l (a+1) else(sepM c l a).bind fun _ a=>(nameP c a).bind fun t a=>(expectP c a [58]).bind fun _ a=>(sortP c S a).bind fun i a=>paramsP c S n (l++[(t.t,i)]) a
def pdB(nm:List UInt8)(l:List PD):List (List D):=[[.p (.str nm),.tsl 5 72 2 l,.p (.int .i64 0),.p (.str []),.p (.int .i64 0),.p .nils,.p (.int .i64 0)]]
def pdS(s:List UInt8)(q:Sp)(a o:Nat)(nm:List UInt8)(l:List (List UInt8×Nat)):St:=⟨[(0,.box 0 0),(4,.box 4 0)],⟨rC (rdS s q) a o::tabB::tabU::tabS::pdB nm (l.map mPD),(rdS s q).tk++[l.length]⟩⟩
theorem pd_loc(s:List UInt8)(q:Sp)(a o:Nat)(nm:List UInt8)(l:List PD)(ex:List (List D))(m:Nat)(out:Out)(env:Env)(ho:out.ren (below 5) (below 6)=some out):
    locD 5 6 (out,⟨env,⟨rC (rdS s q) a o::tabB::tabU::tabS::(pdB nm l++ex),(rdS s q).tk++[m]⟩⟩)=
     (out,⟨env.map fun y=>(y.1,(y.2.ren (below 5) (below 6)).getD .dead),⟨rC (rdS s q) a o::tabB::tabU::tabS::pdB nm l,(rdS s q).tk++[m]⟩⟩):=
 loc_rdT (rdX_ok ..) a o (pdB nm l) _ ex [m] [] out env 5 6 rfl rfl rfl ho
theorem ap_m{s:List UInt8}{q:Sp}{l:List (List UInt8×Nat)}{x:List UInt8}{i:Nat}{bx:List (List D)}(h:l.length≤1000000):appendD 72 2 24 (.tsl 5 72 2 (l.map mPD)) [.agg [.str x,.int .i64 i]] ⟨bx,(rdS s q).tk++[l.length]⟩=some (.tsl 5 72 2 ((l++[(x,i)]).map mPD),⟨bx,(rdS s q).tk++[(l++[(x,i)]).length]⟩):=by
 have hr:roomy (l.length+1) 24=true:=by simp only[roomy,Bool.and_eq_true,decide_eq_true_eq];omega
 simp[appendD,hr,rdS,rdX,mPD]
section
variable {s : List UInt8} (hs : s.length ≤ 20000) (q : Sp) (nm : List UInt8)
include hs
theorem pd_end(a o:Nat)(ha:a≤400000)(l:List (List UInt8×Nat))(hq:acceptB (rdS s q) a [93]=true):∃env,evS (call pg) pg.G iterX fc75_b0 (pdS s q a o nm l)=some (.exit 0,⟨env,(pdS s q (a+1) o nm l).hp⟩)∧env.get 0= .box 0 0∧env.get 4= .box 4 0:=by
 have h:(rdS s q).Sz:=rdX_sz s _ _ _ _ _ hs
 have ac:=fun bx t=>accept_eq h.toOk a o [93] (by omega) bx t
 simp only[rH,acceptN,hq,cond_true] at ac
 have hloc:=fun env=>pd_loc s q (a+1) o nm (l.map mPD) [] l.length (.exit 0) env rfl
 have htk:∀n:Nat,((rdS s q).tk++[n]).length=6:=fun _=>rfl
 simp only[pdS,pdB,List.append_nil] at hloc⊢
 apply Exists.intro
 refine⟨?_,?_,?_⟩
 ·conv=>lhs;simp[fc75_b0,evKC,evK,evGuard,put,Env.get,Env.keep,entry,Opd.ev,splice,cutAt,indexD,D.asInt?,D.asNat?,u8,binD,strBin,unD,boundsD,sliceD,iaddrD,sub,minmaxD,eqvL,PD.eqv,clsP,cls,clsR,isCl,isW,apartRW,offB,apartWW,clash,insOk,finish,evRes,evRes1,mapO,D.cells,PD.cells,D.refsL,D.refs,D.toksL,D.toks,mkAgg,pures,fillD,fillE,appendD,srcD,D.elems?,D.asPD,Int.toNat_natCast,srcH,srcBH,eqD,D.asPDL,isMapC,ld_succ,ld_zero,st_succ,st_zero,oI,oS,oN,oP,oB,oL,oT,oF,oE,ldr0,ldr1,ldr2,ldr3,ldr4,ldr5,ldr6,str1',str3',htk,ac,hloc,D.ren,below,-List.length_append]
 all_goals rfl
theorem pd_bad1(a o:Nat)(ha:a≤400000)(l:List (List UInt8×Nat))(hq:acceptB (rdS s q) a [93]=false){e:Int}{p a':Nat}(hx:sepM (rdS s q) l a= .bad e p a'):
    ∃env o',evS (call pg) pg.G iterX fc75_b0 (pdS s q a o nm l)=some (.pan (faultD e p),⟨env,(pdS s q a' o' nm l).hp⟩):=by
 have h:(rdS s q).Sz:=rdX_sz s _ _ _ _ _ hs
 have ac:=fun bx t=>accept_eq h.toOk a o [93] (by omega) bx t
 simp only[rH,acceptN,hq,cond_false] at ac
 unfold sepM at hx
 have hne:l≠[]:=fun e=>by rw[if_pos e] at hx;cases hx
 rw[if_neg hne] at hx
 obtain⟨o',s1⟩:=(expect_eq h a o [44] (by omega)).badT hx
 simp only[List.map_cons,List.map_nil] at s1
 have hlen:lenD 1 (.tsl 5 72 2 (l.map mPD))=some l.length:=by rw[lenD_tsl,List.length_map]
 have hg:0<l.length:=List.length_pos_iff.2 hne
 have hloc:=fun env=>pd_loc s q a' o' nm (l.map mPD) [] l.length (.pan (faultD e p)) env rfl
 have htk:∀n:Nat,((rdS s q).tk++[n]).length=6:=fun _=>rfl
 simp only[pdS,pdB,List.append_nil] at hloc⊢
 apply Exists.intro
 refine⟨o',?_⟩
 conv=>lhs;simp[fc75_b0,evKC,evK,evGuard,put,Env.get,Env.keep,entry,Opd.ev,splice,cutAt,indexD,D.asInt?,D.asNat?,u8,binD,strBin,unD,boundsD,sliceD,iaddrD,sub,minmaxD,eqvL,PD.eqv,clsP,cls,clsR,isCl,isW,apartRW,offB,apartWW,clash,insOk,finish,evRes,evRes1,mapO,D.cells,PD.cells,D.refsL,D.refs,D.toksL,D.toks,mkAgg,pures,fillD,fillE,appendD,srcD,D.elems?,D.asPD,Int.toNat_natCast,srcH,srcBH,eqD,D.asPDL,isMapC,ld_succ,ld_zero,st_succ,st_zero,oI,oS,oN,oP,oB,oL,oT,oF,oE,ldr0,ldr1,ldr2,ldr3,ldr4,ldr5,ldr6,str1',str3',htk,ac,s1,hlen,hg,hloc,D.ren,below,-List.length_append]
omit hs in
theorem sepM_ok{c:Rd}{l:List (List UInt8×Nat)}{a a1:Nat}{u:Unit}(h:sepM c l a= .ok u a1):(l=[]∧a1=a)∨(l≠[]∧expectP c a [44]= .ok u a1):=by
 unfold sepM at h
 by_cases hk:l=[]
 ·rw[if_pos hk] at h;cases h;exact .inl ⟨hk,rfl⟩
 ·rw[if_neg hk] at h;exact .inr ⟨hk,h⟩
omit hs in
theorem sepM_le{c:Rd}{l:List (List UInt8×Nat)}{a a1:Nat}{u:Unit}(h:sepM c l a= .ok u a1)(ha:a≤c.ts.length):a≤a1∧a1≤c.ts.length:=by
 rcases sepM_ok h with⟨_,rfl⟩ |⟨_,q⟩
 ·exact⟨Nat.le_refl _,ha⟩
 ·obtain⟨e,w⟩:=expect_lt q
  omega
theorem pd_bad2(a o:Nat)(ha:a≤(rdS s q).ts.length)(l:List (List UInt8×Nat))(hq:acceptB (rdS s q) a [93]=false){u:Unit}{a1:Nat}(hx:sepM (rdS s q) l a= .ok u a1){e:Int}{p a':Nat}(hy:nameP (rdS s q) a1= .bad e p a'):
    ∃env o',evS (call pg) pg.G iterX fc75_b0 (pdS s q a o nm l)=some (.pan (faultD e p),⟨env,(pdS s q a' o' nm l).hp⟩):=by
 have h:(rdS s q).Sz:=rdX_sz s _ _ _ _ _ hs
 have hn:=h.n
 have hb1:=(sepM_le hx ha).2
 have ac:=fun bx t=>accept_eq h.toOk a o [93] (by omega) bx t
 simp only[rH,acceptN,hq,cond_false] at ac
 obtain⟨o',s2⟩:=(rname_eq h a1 o (by omega) (tok_tlen h _)).badT hy
 simp only[List.map_nil] at s2
 have hlen:lenD 1 (.tsl 5 72 2 (l.map mPD))=some l.length:=by rw[lenD_tsl,List.length_map]
 have hloc:=fun env=>pd_loc s q a' o' nm (l.map mPD) [] l.length (.pan (faultD e p)) env rfl
 have htk:∀n:Nat,((rdS s q).tk++[n]).length=6:=fun _=>rfl
 simp only[pdS,pdB,List.append_nil] at hloc⊢
 rcases sepM_ok hx with⟨rfl,rfl⟩ |⟨hk,hx⟩
 ·simp only[List.map_nil,List.length_nil] at hlen hloc⊢
  apply Exists.intro
  refine⟨o',?_⟩
  conv=>lhs;simp[fc75_b0,evKC,evK,evGuard,put,Env.get,Env.keep,entry,Opd.ev,splice,cutAt,indexD,D.asInt?,D.asNat?,u8,binD,strBin,unD,boundsD,sliceD,iaddrD,sub,minmaxD,eqvL,PD.eqv,clsP,cls,clsR,isCl,isW,apartRW,offB,apartWW,clash,insOk,finish,evRes,evRes1,mapO,D.cells,PD.cells,D.refsL,D.refs,D.toksL,D.toks,mkAgg,pures,fillD,fillE,appendD,srcD,D.elems?,D.asPD,Int.toNat_natCast,srcH,srcBH,eqD,D.asPDL,isMapC,ld_succ,ld_zero,st_succ,st_zero,oI,oS,oN,oP,oB,oL,oT,oF,oE,ldr0,ldr1,ldr2,ldr3,ldr4,ldr5,ldr6,str1',str3',htk,ac,s2,hlen,hloc,D.ren,below,-List.length_append]
 ·have s1:=(expect_eq h a o [44] (by omega)).okT hx
  simp only[List.map_cons,List.map_nil] at s1
  have hg:0<l.length:=List.length_pos_iff.2 hk
  apply Exists.intro
  refine⟨o',?_⟩
  conv=>lhs;simp[fc75_b0,evKC,evK,evGuard,put,Env.get,Env.keep,entry,Opd.ev,splice,cutAt,indexD,D.asInt?,D.asNat?,u8,binD,strBin,unD,boundsD,sliceD,iaddrD,sub,minmaxD,eqvL,PD.eqv,clsP,cls,clsR,isCl,isW,apartRW,offB,apartWW,clash,insOk,finish,evRes,evRes1,mapO,D.cells,PD.cells,D.refsL,D.refs,D.toksL,D.toks,mkAgg,pures,fillD,fillE,appendD,srcD,D.elems?,D.asPD,Int.toNat_natCast,srcH,srcBH,eqD,D.asPDL,isMapC,ld_succ,ld_zero,st_succ,st_zero,oI,oS,oN,oP,oB,oL,oT,oF,oE,ldr0,ldr1,ldr2,ldr3,ldr4,ldr5,ldr6,str1',str3',htk,ac,s1,s2,hlen,hg,hloc,D.ren,below,-List.length_append]
theorem pd_bad3(a o:Nat)(ha:a≤(rdS s q).ts.length)(l:List (List UInt8×Nat))(hq:acceptB (rdS s q) a [93]=false){u:Unit}{a1:Nat}(hx:sepM (rdS s q) l a= .ok u a1){t:Tok}{a2:Nat}(hy:nameP (rdS s q) a1= .ok t a2)
    {e:Int} {p a':Nat} (hz:expectP (rdS s q) a2 [58]= .bad e p a'):
    ∃env o',evS (call pg) pg.G iterX fc75_b0 (pdS s q a o nm l)=some (.pan (faultD e p),⟨env,(pdS s q a' o' nm l).hp⟩):=by
 have h:(rdS s q).Sz:=rdX_sz s _ _ _ _ _ hs
 have hn:=h.n
 have hb1:=(sepM_le hx ha).2
 have ac:=fun bx t=>accept_eq h.toOk a o [93] (by omega) bx t
 simp only[rH,acceptN,hq,cond_false] at ac
 have s2:=(rname_eq h a1 o (by omega) (tok_tlen h _)).okT hy
 obtain⟨rfl,hlt2,_⟩:=name_lt hy
 obtain⟨o',s3⟩:=(expect_eq h (a1+1) o [58] (by omega)).badT hz
 simp only[List.map_cons,List.map_nil,Tok.pd] at s2 s3
 have hlen:lenD 1 (.tsl 5 72 2 (l.map mPD))=some l.length:=by rw[lenD_tsl,List.length_map]
 have hloc:=fun env=>pd_loc s q a' o' nm (l.map mPD) [[.p (.int .i64 t.k),.p (.str t.t),.p (.int .i64 t.p)]] l.length (.pan (faultD e p)) env rfl
 have htk:∀n:Nat,((rdS s q).tk++[n]).length=6:=fun _=>rfl
 simp only[pdS,pdB,List.cons_append,List.nil_append] at hloc⊢
 rcases sepM_ok hx with⟨rfl,rfl⟩ |⟨hk,hx⟩
 ·simp only[List.map_nil,List.length_nil] at hlen hloc⊢
  apply Exists.intro
  refine⟨o',?_⟩
  conv=>lhs;simp[fc75_b0,evKC,evK,evGuard,put,Env.get,Env.keep,entry,Opd.ev,splice,cutAt,indexD,D.asInt?,D.asNat?,u8,binD,strBin,unD,boundsD,sliceD,iaddrD,sub,minmaxD,eqvL,PD.eqv,clsP,cls,clsR,isCl,isW,apartRW,offB,apartWW,clash,insOk,finish,evRes,evRes1,mapO,D.cells,PD.cells,D.refsL,D.refs,D.toksL,D.toks,mkAgg,pures,fillD,fillE,appendD,srcD,D.elems?,D.asPD,Int.toNat_natCast,srcH,srcBH,eqD,D.asPDL,isMapC,ld_succ,ld_zero,st_succ,st_zero,oI,oS,oN,oP,oB,oL,oT,oF,oE,ldr0,ldr1,ldr2,ldr3,ldr4,ldr5,ldr6,str1',str3',htk,ac,s2,s3,hlen,hloc,D.ren,below,-List.length_append]
 ·have s1:=(expect_eq h a o [44] (by omega)).okT hx
  simp only[List.map_cons,List.map_nil] at s1
  have hg:0<l.length:=List.length_pos_iff.2 hk
  apply Exists.intro
  refine⟨o',?_⟩
  conv=>lhs;simp[fc75_b0,evKC,evK,evGuard,put,Env.get,Env.keep,entry,Opd.ev,splice,cutAt,indexD,D.asInt?,D.asNat?,u8,binD,strBin,unD,boundsD,sliceD,iaddrD,sub,minmaxD,eqvL,PD.eqv,clsP,cls,clsR,isCl,isW,apartRW,offB,apartWW,clash,insOk,finish,evRes,evRes1,mapO,D.cells,PD.cells,D.refsL,D.refs,D.toksL,D.toks,mkAgg,pures,fillD,fillE,appendD,srcD,D.elems?,D.asPD,Int.toNat_natCast,srcH,srcBH,eqD,D.asPDL,isMapC,ld_succ,ld_zero,st_succ,st_zero,oI,oS,oN,oP,oB,oL,oT,oF,oE,ldr0,ldr1,ldr2,ldr3,ldr4,ldr5,ldr6,str1',str3',htk,ac,s1,s2,s3,hlen,hg,hloc,D.ren,below,-List.length_append]
end
end Go.Proofs.YtalgjkpkkdljaaaGreatDoor
namespace Go.Proofs.YtalgjkpkkdljaaaGreatDoor
open Go.Vs
section
variable {s : List UInt8} (hs : s.length ≤ 20000) (q : Sp) (hS : q.S.length ≤ 1000) (nm : List UInt8)
include hs hS
theorem pd_bad4(a o:Nat)(ha:a≤(rdS s q).ts.length)(l:List (List UInt8×Nat))(hq:acceptB (rdS s q) a [93]=false){u:Unit}{a1:Nat}(hx:sepM (rdS s q) l a= .ok u a1){t:Tok}{a2:Nat}(hy:nameP (rdS s q) a1= .ok t a2)
    {u3:Unit} {a3:Nat} (hz:expectP (rdS s q) a2 [58]= .ok u3 a3) {e:Int} {p a':Nat} (hw:sortP (rdS s q) q.S a3= .bad e p a'):
    ∃env o',evS (call pg) pg.G iterX fc75_b0 (pdS s q a o nm l)=some (.pan (faultD e p),⟨env,(pdS s q a' o' nm l).hp⟩):=by
 have h:(rdS s q).Sz:=rdX_sz s _ _ _ _ _ hs
 have hn:=h.n
 have hb1:=(sepM_le hx ha).2
 have ac:=fun bx t=>accept_eq h.toOk a o [93] (by omega) bx t
 simp only[rH,acceptN,hq,cond_false] at ac
 have s2:=(rname_eq h a1 o (by omega) (tok_tlen h _)).okT hy
 obtain⟨rfl,hlt2,_⟩:=name_lt hy
 have s3:=(expect_eq h (a1+1) o [58] (by omega)).okT hz
 obtain⟨rfl,hlt3⟩:=expect_lt hz
 obtain⟨o',s4⟩:=(sort_eq hs q (by omega) (a1+1+1) o (by omega)).badT hw
 simp only[List.map_cons,List.map_nil,Tok.pd] at s2 s3 s4
 have hlen:lenD 1 (.tsl 5 72 2 (l.map mPD))=some l.length:=by rw[lenD_tsl,List.length_map]
 have hloc:=fun env=>pd_loc s q a' o' nm (l.map mPD) [[.p (.int .i64 t.k),.p (.str t.t),.p (.int .i64 t.p)]] l.length (.pan (faultD e p)) env rfl
 have htk:∀n:Nat,((rdS s q).tk++[n]).length=6:=fun _=>rfl
 simp only[pdS,pdB,List.cons_append,List.nil_append] at hloc⊢
 rcases sepM_ok hx with⟨rfl,rfl⟩ |⟨hk,hx⟩
 ·simp only[List.map_nil,List.length_nil] at hlen hloc⊢
  apply Exists.intro
  refine⟨o',?_⟩
  conv=>lhs;simp[fc75_b0,evKC,evK,evGuard,put,Env.get,Env.keep,entry,Opd.ev,splice,cutAt,indexD,D.asInt?,D.asNat?,u8,binD,strBin,unD,boundsD,sliceD,iaddrD,sub,minmaxD,eqvL,PD.eqv,clsP,cls,clsR,isCl,isW,apartRW,offB,apartWW,clash,insOk,finish,evRes,evRes1,mapO,D.cells,PD.cells,D.refsL,D.refs,D.toksL,D.toks,mkAgg,pures,fillD,fillE,appendD,srcD,D.elems?,D.asPD,Int.toNat_natCast,srcH,srcBH,eqD,D.asPDL,isMapC,ld_succ,ld_zero,st_succ,st_zero,oI,oS,oN,oP,oB,oL,oT,oF,oE,ldr0,ldr1,ldr2,ldr3,ldr4,ldr5,ldr6,str1',str3',htk,ac,s2,s3,s4,hlen,hloc,D.ren,below,-List.length_append,drP,evRest,behind,pairsOk,panOk,SO.uses,SK.slots,Opd.slots,SK.heapless]
 ·have s1:=(expect_eq h a o [44] (by omega)).okT hx
  simp only[List.map_cons,List.map_nil] at s1
  have hg:0<l.length:=List.length_pos_iff.2 hk
  apply Exists.intro
  refine⟨o',?_⟩
  conv=>lhs;simp[fc75_b0,evKC,evK,evGuard,put,Env.get,Env.keep,entry,Opd.ev,splice,cutAt,indexD,D.asInt?,D.asNat?,u8,binD,strBin,unD,boundsD,sliceD,iaddrD,sub,minmaxD,eqvL,PD.eqv,clsP,cls,clsR,isCl,isW,apartRW,offB,apartWW,clash,insOk,finish,evRes,evRes1,mapO,D.cells,PD.cells,D.refsL,D.refs,D.toksL,D.toks,mkAgg,pures,fillD,fillE,appendD,srcD,D.elems?,D.asPD,Int.toNat_natCast,srcH,srcBH,eqD,D.asPDL,isMapC,ld_succ,ld_zero,st_succ,st_zero,oI,oS,oN,oP,oB,oL,oT,oF,oE,ldr0,ldr1,ldr2,ldr3,ldr4,ldr5,ldr6,str1',str3',htk,ac,s1,s2,s3,s4,hlen,hg,hloc,D.ren,below,-List.length_append,drP,evRest,behind,pairsOk,panOk,SO.uses,SK.slots,Opd.slots,SK.heapless]
theorem pd_step(a o:Nat)(ha:a≤(rdS s q).ts.length)(l:List (List UInt8×Nat))(hla:l.length≤a)(hq:acceptB (rdS s q) a [93]=false){u:Unit}{a1:Nat}(hx:sepM (rdS s q) l a= .ok u a1){t:Tok}{a2:Nat}(hy:nameP (rdS s q) a1= .ok t a2)
    {u3:Unit} {a3:Nat} (hz:expectP (rdS s q) a2 [58]= .ok u3 a3) {i a':Nat} (hw:sortP (rdS s q) q.S a3= .ok i a'):
    evS (call pg) pg.G iterX fc75_b0 (pdS s q a o nm l)=some (.norm,pdS s q a' o nm (l++[(t.t,i)])):=by
 have h:(rdS s q).Sz:=rdX_sz s _ _ _ _ _ hs
 have hn:=h.n
 have hb1:=(sepM_le hx ha).2
 have ac:=fun bx t=>accept_eq h.toOk a o [93] (by omega) bx t
 simp only[rH,acceptN,hq,cond_false] at ac
 have s2:=(rname_eq h a1 o (by omega) (tok_tlen h _)).okT hy
 obtain⟨rfl,hlt2,_⟩:=name_lt hy
 have s3:=(expect_eq h (a1+1) o [58] (by omega)).okT hz
 obtain⟨rfl,hlt3⟩:=expect_lt hz
 have s4:=(sort_eq hs q (by omega) (a1+1+1) o (by omega)).okT hw
 simp only[List.map_cons,List.map_nil,Tok.pd] at s2 s3 s4
 have hlen:lenD 1 (.tsl 5 72 2 (l.map mPD))=some l.length:=by rw[lenD_tsl,List.length_map]
 have hloc:=fun env=>pd_loc s q a' o nm ((l++[(t.t,i)]).map mPD) [[.p (.int .i64 t.k),.p (.str t.t),.p (.int .i64 t.p)]] (l++[(t.t,i)]).length .norm env rfl
 have htk:∀n:Nat,((rdS s q).tk++[n]).length=6:=fun _=>rfl
 have hap:=fun bx=>ap_m (s:=s) (q:=q) (l:=l) (x:=t.t) (i:=i) (bx:=bx) (by omega)
 rcases sepM_ok hx with⟨rfl,rfl⟩ |⟨hk,hx⟩
 ·obtain⟨kc,hkc,hcl⟩:=cls_rd1 h.toOk (a1+1+1) o a' o (pdB nm []++[[.p (.int .i64 t.k),.p (.str t.t),.p (.int .i64 t.p)]]) [0] 123 44
  simp only[pdB,List.cons_append,List.nil_append] at hcl
  simp only[List.nil_append] at hap hloc
  simp only[pdS,pdB,List.cons_append,List.nil_append,List.map_nil,List.length_nil,List.map_cons,List.length_cons,Nat.zero_add] at hlen hloc hap⊢
  rcases hkc with rfl |rfl<;>simp[fc75_b0,↓hcl,evKC,evK,put,Env.get,Env.keep,Opd.ev,splice,cutAt,binD,unD,clsP,cls,clsR,isCl,isW,apartRW,offB,apartWW,clash,insOk,D.cells,PD.cells,mkAgg,pures,fillD,fillE,srcD,D.elems?,D.asPD,srcH,ld_succ,ld_zero,st_succ,st_zero,oP,htk,ac,s2,s3,s4,hap,hlen,hloc,D.ren,below,-List.length_append]
 ·have s1:=(expect_eq h a o [44] (by omega)).okT hx
  simp only[List.map_cons,List.map_nil] at s1
  have hg:0<l.length:=List.length_pos_iff.2 hk
  obtain⟨kc,hkc,hcl⟩:=cls_rd1 h.toOk (a1+1+1) o a' o (pdB nm (l.map mPD)++[[.p (.int .i64 t.k),.p (.str t.t),.p (.int .i64 t.p)]]) [l.length] 123 44
  simp only[pdB,List.cons_append,List.nil_append] at hcl
  simp only[pdS,pdB,List.cons_append,List.nil_append] at hloc⊢
  rcases hkc with rfl |rfl<;>simp[fc75_b0,↓hcl,evKC,evK,put,Env.get,Env.keep,Opd.ev,splice,cutAt,binD,unD,clsP,cls,clsR,isCl,isW,apartRW,offB,apartWW,clash,insOk,D.cells,PD.cells,mkAgg,pures,fillD,fillE,srcD,D.elems?,D.asPD,srcH,ld_succ,ld_zero,st_succ,st_zero,oP,htk,ac,s1,s2,s3,s4,hap,hlen,hg,hloc,D.ren,below,-List.length_append,-List.map_append]
theorem pd_loop:∀(m a:Nat) (l:List (List UInt8×Nat)),a≤(rdS s q).ts.length→l.length≤a→(rdS s q).ts.length-a<m→match paramsP (rdS s q) q.S m l a with
    | .ok l' a'=>a'≤(rdS s q).ts.length∧∃env,loopK (call pg) pg.G [0,4] fc75_b0 (pdS s q a 0 nm l)=some (.exit 0,⟨env,(pdS s q a' 0 nm l').hp⟩)∧env.get 0= .box 0 0∧env.get 4= .box 4 0
    | .bad e p a'=>∃env o' l',loopK (call pg) pg.G [0,4] fc75_b0 (pdS s q a 0 nm l)=some (.pan (faultD e p),⟨env,(pdS s q a' o' nm l').hp⟩):=by
 have h:(rdS s q).Sz:=rdX_sz s _ _ _ _ _ hs
 have hn:=h.n
 intro m
 induction m with
 |zero=>intro a l _ _ h2;omega
 |succ m ih=>
  intro a l ha hla hm
  unfold paramsP
  cases hq:acceptB (rdS s q) a [93] with
  |true=>
   obtain⟨env,e,g0,g4⟩:=pd_end hs q nm a 0 (by omega) l hq
   exact⟨accept_lt' hq,env,loopK_out e (by simp),g0,g4⟩
  |false=>
   simp only[Bool.false_eq_true,if_false]
   cases hx:sepM (rdS s q) l a with
   |bad e p a'=>
    obtain⟨env,o',e1⟩:=pd_bad1 hs q nm a 0 (by omega) l hq hx
    exact⟨env,o',l,loopK_out e1 (by simp)⟩
   |ok u a1=>
    simp only[bind_ok]
    obtain⟨hle1,hb1⟩:=sepM_le hx ha
    cases hy:nameP (rdS s q) a1 with
    |bad e p a'=>
     obtain⟨env,o',e1⟩:=pd_bad2 hs q nm a 0 ha l hq hx hy
     exact⟨env,o',l,loopK_out e1 (by simp)⟩
    |ok t a2=>
     simp only[bind_ok]
     cases hz:expectP (rdS s q) a2 [58] with
     |bad e p a'=>
      obtain⟨env,o',e1⟩:=pd_bad3 hs q nm a 0 ha l hq hx hy hz
      exact⟨env,o',l,loopK_out e1 (by simp)⟩
     |ok u3 a3=>
      simp only[bind_ok]
      cases hw:sortP (rdS s q) q.S a3 with
      |bad e p a'=>
       obtain⟨env,o',e1⟩:=pd_bad4 hs q hS nm a 0 ha l hq hx hy hz hw
       exact⟨env,o',l,loopK_out e1 (by simp)⟩
      |ok i a'=>
       simp only[bind_ok]
       have e1:=pd_step hs q hS nm a 0 ha l hla hq hx hy hz hw
       obtain⟨w1,w2,_⟩:=name_lt hy
       obtain⟨w3,w4⟩:=expect_lt hz
       obtain⟨w5,w6,_⟩:=sort_lt hw
       have:=ih a' (l++[(t.t,i)]) (by omega) (by simp;omega) (by omega)
       rw[show loopK (call pg) pg.G [0,4] fc75_b0 (pdS s q a 0 nm l)=loopK (call pg) pg.G [0,4] fc75_b0 (pdS s q a' 0 nm (l++[(t.t,i)])) from loopK_norm e1]
       exact this
end
def predDeclP(c:Rd)(q:Sp)(at_ a:Nat):PR Sp:=
 if 8≤q.P.length then .bad 2 at_ a
 else(nameP c (a+1)).bind fun t a2=>(expectP c a2 [91]).bind fun _ a3=>(paramsP c q.S (c.ts.length+1) [] a3).bind fun l a4=>(blockP c a4).bind fun n a5=>
  .ok {q with P:=q.P++[(t.t,l,n)]} a5
theorem predDecl_eq{s:List UInt8}(hs:s.length≤20000)(q:Sp)(hS:q.S.length≤1000)(hP:q.P.length≤1000)(p a:Nat)(ha:a≤(rdS s q).ts.length):AnsS 75 [.int .i64 p] s q a (predDeclP (rdS s q) q p a):=by
 have h:(rdS s q).Sz:=rdX_sz s _ _ _ _ _ hs
 have hn:=h.n
 have l10:=fun G bx tk a o=>ldX10 (G:=G) (bx:=bx) (tk:=tk) (s:=s) (f:=q.f) (S:=q.S.map sPD) (F:=q.F.map fPD) (P:=q.P.map pPD) (A:=q.A.map aPD) (a:=a) (o:=o)
 have hlen:lenD 1 (.tsl 3 41 7 (q.P.map pPD))=some q.P.length:=by rw[lenD_tsl,List.length_map]
 unfold predDeclP
 by_cases hq:8≤q.P.length
 ·rw[if_pos hq]
  have hl:=lim_bad (n:=(q.P.length:Int)) (most:=8) p (by omega)
  refine ansS_bad ⟨0,[],[],call_body (fc:=fc75) rfl rfl rfl rfl ?_⟩
  simp only[rH,List.append_nil,rdS]
  simp[fc75,evKC,evK,put,Env.get,entry,Opd.ev,finish,l10,hlen,hl]
 ·rw[if_neg hq]
  have hl:=lim_ok (n:=(q.P.length:Int)) (most:=8) p (by omega)
  have hw:=addw1 (a:=a) (by omega)
  cases r1:nameP (rdS s q) (a+1) with
  |bad e p2 a2=>
   obtain⟨o',s1⟩:=(rname_eq h (a+1) 0 (by omega) (tok_tlen h _)).badT r1
   have s1:=fun bx=>s1 bx []
   simp only[List.map_nil,List.append_nil,rdS] at s1
   refine ansS_bad ⟨o',[],[],call_body (fc:=fc75) rfl rfl rfl rfl ?_⟩
   simp only[rH,List.append_nil,rdS]
   simp[fc75,evKC,evK,put,Env.get,Env.keep,entry,Opd.ev,binD,finish,ldr1,str1',l10,hlen,hl,ldr1,hw,str1',s1]
  |ok t a2=>
   have s1:=fun bx=>(rname_eq h (a+1) 0 (by omega) (tok_tlen h _)).okT r1 bx []
   obtain⟨rfl,hlt,_⟩:=name_lt r1
   simp only[List.map_nil,List.append_nil,Tok.pd,rdS] at s1
   simp only[bind_ok]
   cases r2:expectP (rdS s q) (a+1+1) [91] with
   |bad e p2 a3=>
    obtain⟨o',s2⟩:=(expect_eq h (a+1+1) 0 [91] (by omega)).badT r2
    have s2:=fun bx=>s2 bx [0]
    simp only[List.map_cons,List.map_nil,rdS] at s2
    refine ansS_bad ⟨o',pdB t.t [],[0],call_body (fc:=fc75) rfl rfl rfl rfl ?_⟩
    have htk:(rdX s q.f (q.S.map sPD) (q.F.map fPD) (q.P.map pPD) (q.A.map aPD)).tk.length=5:=rfl
    simp only[rH,List.append_nil,rdS,pdB]
    simp[fc75,evKC,evK,put,Env.get,Env.keep,entry,Opd.ev,splice,cutAt,binD,finish,D.cells,D.one,PD.one,mkAgg,pures,fillD,isMapC,st_succ,st_zero,ldr1,str1',l10,hlen,hl,ldr1,hw,str1',s1,s2,tokbD,tokD,htk]
   |ok u a3=>
    have s2:=fun bx=>(expect_eq h (a+1+1) 0 [91] (by omega)).okT r2 bx [0]
    obtain⟨rfl,hlt2⟩:=expect_lt r2
    simp only[List.map_cons,List.map_nil,rdS] at s2
    simp only[bind_ok]
    have htk:(rdX s q.f (q.S.map sPD) (q.F.map fPD) (q.P.map pPD) (q.A.map aPD)).tk.length=5:=rfl
    have hL:=pd_loop hs q hS t.t ((rdS s q).ts.length+1) (a+1+1+1) [] (by omega) (by simp) (by omega)
    cases r3:paramsP (rdS s q) q.S ((rdS s q).ts.length+1) [] (a+1+1+1) with
    |bad e p2 a4=>
     rw[r3] at hL
     obtain⟨env,o',l,hL⟩:=hL
     simp only[pdS,pdB,rdS,List.length_nil,List.map_nil] at hL
     refine ansS_bad ⟨o',pdB t.t (l.map mPD),[l.length],call_body (fc:=fc75) rfl rfl rfl rfl ?_⟩
     simp only[rH,List.append_nil,rdS,pdB]
     simp[fc75,evKC,evK,put,Env.get,Env.keep,entry,Opd.ev,splice,cutAt,binD,finish,D.cells,D.one,PD.one,mkAgg,pures,fillD,isMapC,st_succ,st_zero,ldr1,str1',l10,hlen,hl,ldr1,hw,str1',s1,s2,tokbD,tokD,htk,hL]
    |ok l a4=>
     rw[r3] at hL
     obtain⟨hb4,env,hL,g0,g4⟩:=hL
     simp only[pdS,pdB,rdS,List.length_nil,List.map_nil] at hL
     simp only[bind_ok]
     have hbl:=block_eq h a4 hb4
     cases r4:blockP (rdS s q) a4 with
     |bad e p2 a5=>
      obtain⟨o',s4⟩:=hbl.badT r4
      simp only[List.map_nil,rdS] at s4
      refine ansS_bad ⟨o',pdB t.t (l.map mPD),[l.length],call_body (fc:=fc75) rfl rfl rfl rfl ?_⟩
      simp only[rH,List.append_nil,rdS,pdB]
      simp[fc75,evKC,evK,put,Env.get,Env.keep,entry,Opd.ev,splice,cutAt,binD,finish,D.cells,D.one,PD.one,mkAgg,pures,fillD,isMapC,st_succ,st_zero,ldr1,str1',l10,hlen,hl,ldr1,hw,str1',s1,s2,tokbD,tokD,htk,hL,g0,s4]
     |ok n a5=>
      have s4:=hbl.okT r4
      have hkn:=pone_kids n
      have hcn:=kids_cells n
      simp only[List.map_nil,rdS,pd_cells n,Nd.cells] at s4
      simp only[bind_ok]
      have hap2:=fun bx x=>apX10 (bx:=bx) (t:=[l.length]) (s:=s) (f:=q.f) (S:=q.S.map sPD) (F:=q.F.map fPD) (P:=q.P.map pPD) (A:=q.A.map aPD) (x:=x) (by simpa using hP)
      have hmap:(q.P++[(t.t,l,n)]).map pPD=q.P.map pPD++[.agg (.str t.t:: .slice 2 (l.map mPD)::n.cells)]:=by simp[pPD]
      refine ansS_ok ⟨[.p (.str t.t):: .tsl 5 72 2 (l.map mPD)::n.cells.map .p],[l.length],call_body (fc:=fc75) rfl rfl rfl rfl ?_⟩
      simp only[rH,List.append_nil,rdS,hmap,Nd.cells,List.map_cons,List.map_nil]
      simp[fc75,evKC,evK,put,Env.get,Env.keep,entry,Opd.ev,splice,cutAt,binD,sub,clsP,cls,clsR,isCl,isW,apartRW,offB,apartWW,clash,insOk,finish,evRes,D.cells,PD.cells,mkAgg,pures,fillD,fillE,srcD,D.elems?,D.asPD,srcH,D.asPDL,isMapC,ld_succ,ld_zero,st_succ,st_zero,oP,ldr1,str1',l10,hlen,hl,ldr1,hw,str1',s1,s2,tokbD,tokD,htk,hL,g0,g4,s4,hap2,stX10,hkn]
end Go.Proofs.YtalgjkpkkdljaaaGreatDoor
namespace Go.Proofs.YtalgjkpkkdljaaaGreatDoor
open Go.Vs
def declP(c:Rd)(q:Sp)(a:Nat):PR Sp:=
 if(c.tok a).t=[115,111,114,116] then sortDeclP c q (c.tok a).p a
 else if(c.tok a).t=[118,97,114]∨(c.tok a).t=[102,105,101,108,100] then fieldDeclP c q (c.tok a).p a
 else if(c.tok a).t=[112,114,101,100] then predDeclP c q (c.tok a).p a
 else if(c.tok a).t=[102,97,99,116] then factDeclP c q (c.tok a).p a
 else wrongP c a
theorem AnsS.okU{g:Nat}{args:List PD}{s:List UInt8}{q q':Sp}{a a':Nat}{r:PR Sp}(h:AnsS g args s q a r)(e:r= .ok q' a')(bx:List (List D)):
    callD (call pg) g (.box 0 0::args.map .p) ⟨rC (rdS s q) a 0::tabB::tabU::tabS::bx,(rdS s q).tk⟩=some (.val .undef,⟨rC (rdS s q') a' 0::tabB::tabU::tabS::bx,(rdS s q').tk⟩):=by
 subst e
 have:=h bx []
 simpa only[rH,List.append_nil] using this
theorem AnsS.badU{g:Nat}{args:List PD}{s:List UInt8}{q:Sp}{a a':Nat}{e:Int}{p:Nat}{r:PR Sp}(h:AnsS g args s q a r)(w:r= .bad e p a'):
    ∃o',∀bx:List (List D),callD (call pg) g (.box 0 0::args.map .p) ⟨rC (rdS s q) a 0::tabB::tabU::tabS::bx,(rdS s q).tk⟩=some (.pan (faultD e p),⟨rC (rdS s q) a' o'::tabB::tabU::tabS::bx,(rdS s q).tk⟩):=by
 subst w
 obtain⟨o',h⟩:=h
 refine⟨o',fun bx=>?_⟩
 have:=h bx []
 simpa only[rH,List.append_nil] using this
theorem decl_of{s:List UInt8}(hs:s.length≤20000)(q:Sp)(a:Nat)(ha:a≤(rdS s q).ts.length){g:Nat}{r:PR Sp}(hr:AnsS g [.int .i64 ((rdS s q).tok a).p] s q a r)
    (hg:g=73∧((rdS s q).tok a).t=[115,111,114,116]∨g=74∧(((rdS s q).tok a).t=[118,97,114]∨((rdS s q).tok a).t=[102,105,101,108,100])∨g=75∧((rdS s q).tok a).t=[112,114,101,100]∨g=76∧((rdS s q).tok a).t=[102,97,99,116]):AnsS 42 [] s q a r:=by
 have h:(rdS s q).Sz:=rdX_sz s _ _ _ _ _ hs
 have hn:=h.n
 have lk:=fun bx=>look_at h.toOk a 0 (by omega) bx []
 simp only[rH,List.append_nil] at lk
 generalize (rdS s q).tok a=t at *
 cases r with
 |ok q' a'=>
  have s1:=hr.okU rfl
  simp only[List.map_cons,List.map_nil] at s1
  refine ansS_ok ⟨[[.p (.int .i64 t.k),.p (.str t.t),.p (.int .i64 t.p)]],[],call_body (fc:=fc42) rfl rfl rfl rfl ?_⟩
  simp only[rH,List.append_nil]
  rcases hg with⟨rfl,e⟩ |⟨rfl,e |e⟩ |⟨rfl,e⟩ |⟨rfl,e⟩<;>rw[e] at lk⊢<;>simp[fc42,evKC,evK,put,Env.get,Env.keep,entry,Opd.ev,splice,cutAt,binD,strBin,finish,evRes,D.cells,D.one,PD.one,ld_succ,ld_zero,st_succ,st_zero,lk,s1]
 |bad e p a'=>
  obtain⟨o',s1⟩:=hr.badU rfl
  simp only[List.map_cons,List.map_nil] at s1
  refine ansS_bad ⟨o',[[.p (.int .i64 t.k),.p (.str t.t),.p (.int .i64 t.p)]],[],call_body (fc:=fc42) rfl rfl rfl rfl ?_⟩
  simp only[rH,List.append_nil]
  rcases hg with⟨rfl,e⟩ |⟨rfl,e |e⟩ |⟨rfl,e⟩ |⟨rfl,e⟩<;>rw[e] at lk⊢<;>simp[fc42,evKC,evK,put,Env.get,Env.keep,entry,Opd.ev,splice,cutAt,binD,strBin,finish,D.cells,D.one,PD.one,ld_succ,ld_zero,st_succ,st_zero,lk,s1]
structure Sp.Few (q:Sp):Prop where
 f:q.f.length≤1000
 S:q.S.length≤1000
 F:q.F.length≤1000
 P:q.P.length≤1000
 A:q.A.length≤1000
theorem decl_eq{s:List UInt8}(hs:s.length≤20000)(q:Sp)(hq:q.Few)(a:Nat)(ha:a≤(rdS s q).ts.length):AnsS 42 [] s q a (declP (rdS s q) q a):=by
 have h:(rdS s q).Sz:=rdX_sz s _ _ _ _ _ hs
 have hn:=h.n
 unfold declP
 by_cases h1:((rdS s q).tok a).t=[115,111,114,116]
 ·rw[if_pos h1]
  exact decl_of hs q a ha (sortDecl_eq hs q hq.S _ a (by omega)) (.inl ⟨rfl,h1⟩)
 rw[if_neg h1]
 by_cases h2:((rdS s q).tok a).t=[118,97,114]∨((rdS s q).tok a).t=[102,105,101,108,100]
 ·rw[if_pos h2]
  exact decl_of hs q a ha (fieldDecl_eq hs q hq.S hq.F _ a ha) (.inr (.inl ⟨rfl,h2⟩))
 rw[if_neg h2]
 by_cases h3:((rdS s q).tok a).t=[112,114,101,100]
 ·rw[if_pos h3]
  exact decl_of hs q a ha (predDecl_eq hs q hq.S hq.P _ a ha) (.inr (.inr (.inl ⟨rfl,h3⟩)))
 rw[if_neg h3]
 by_cases h4:((rdS s q).tok a).t=[102,97,99,116]
 ·rw[if_pos h4]
  exact decl_of hs q a ha (factDecl_eq hs q hq.A _ a (by omega)) (.inr (.inr (.inr ⟨rfl,h4⟩)))
 rw[if_neg h4]
 have lk:=fun bx=>look_at h.toOk a 0 (by omega) bx []
 have wr:=fun bx=>wrong_eq h a 0 (by omega) bx []
 simp only[rH,List.append_nil] at lk wr
 unfold wrongP
 generalize (rdS s q).tok a=t at *
 have g1:(t.t==[115,111,114,116])=false:=by simp[h1]
 have g2:(t.t==[118,97,114])=false:=by simp;exact fun e=>h2 (.inl e)
 have g2':(t.t==[102,105,101,108,100])=false:=by simp;exact fun e=>h2 (.inr e)
 have g3:(t.t==[112,114,101,100])=false:=by simp[h3]
 have g4:(t.t==[102,97,99,116])=false:=by simp[h4]
 refine ansS_bad ⟨0,[[.p (.int .i64 t.k),.p (.str t.t),.p (.int .i64 t.p)]],[],call_body (fc:=fc42) rfl rfl rfl rfl ?_⟩
 simp only[rH,List.append_nil]
 simp[fc42,evKC,evK,put,Env.get,Env.keep,entry,Opd.ev,splice,cutAt,binD,strBin,finish,D.cells,D.one,PD.one,ld_succ,ld_zero,st_succ,st_zero,lk,wr,g1,g2,g2',g3,g4]
def skipP(c:Rd):Nat→Nat→Nat
 | 0,a=>a
 |n+1,a=>if a<c.ts.length then(if(c.tok a).t=[59]∨(c.tok a).t=[125] then a+1 else skipP c n (a+1)) else a
theorem tokD_iar{c:Rd}{i:Nat}(h:i<c.ts.length):iaddrD none 3 (.p (slP 3 (c.l.map Tok.pd))) (i:Int)=some (.ro (c.tok i).pd.cells 0):=iar h
theorem sk_loop{c:Rd}(h:c.Sz)(o:Nat)(bx:List (List D))(tk:List Nat):∀(n a:Nat) (e0:Env),e0.keep [0]=[(0,.box 0 0)]→a≤c.ts.length→c.ts.length-a<n→
    ∃out env,(out= .exit 0∨out= .ret)∧loopK (call pg) pg.G [0] fc44_b0 ⟨e0,⟨rC c a o::bx,tk⟩⟩=some (out,⟨env,⟨rC c (skipP c n a) o::bx,tk⟩⟩):=by
 intro n
 induction n with
 |zero=>intro a _ _ _ h2;omega
 |succ n ih=>
  intro a e0 he0 ha hn
  unfold skipP
  by_cases hlt:a<c.ts.length
  ·rw[if_pos hlt]
   have hlt':(a:Int)<(c.ts.length:Int):=by omega
   have hi:=tokD_iar hlt
   have hw:=addw1 (a:=a) (by have:=h.n;omega)
   simp only[Tok.pd,PD.cells] at hi
   generalize c.tok a=t at *
   have l1:∀G H,loadD G H none (.ro [.int .i64 t.k,.str t.t,.int .i64 t.p] 1)=some (.p (.str t.t)):=fun _ _=>rfl
   by_cases he:t.t=[59]∨t.t=[125]
   ·rw[if_pos he]
    refine⟨.ret,[(0,.box 0 0),(36,.p (.bool true))],.inr rfl,loopK_out ?_ (by simp)⟩
    rw[he0]
    rcases he with e |e<;>rw[e] at l1 hi<;>simp[fc44_b0,evKC,evK,evGuard,put,Env.get,Env.keep,Opd.ev,D.asInt?,binD,strBin,clsP,cls,clsR,isCl,isW,apartRW,offB,apartWW,clash,insOk,List.map,ldr0,ldr1,lenr,hlt,hi,l1,hw,str1']
   ·rw[if_neg he]
    have g1:(t.t==[59])=false:=by simp;exact fun e=>he (.inl e)
    have g2:(t.t==[125])=false:=by simp;exact fun e=>he (.inr e)
    obtain⟨out,env,ho,e⟩:=ih (a+1) [(0,.box 0 0),(36,.p (.bool false))] rfl (by omega) (by omega)
    refine⟨out,env,ho,?_⟩
    rw[←e]
    refine loopK_norm ?_
    rw[he0]
    simp[fc44_b0,evKC,evK,evGuard,put,Env.get,Env.keep,Opd.ev,D.asInt?,binD,strBin,clsP,cls,clsR,isCl,isW,apartRW,offB,apartWW,clash,insOk,List.map,ldr0,ldr1,lenr,hlt,hi,l1,hw,str1',g1,g2]
  ·rw[if_neg hlt]
   have hlt':¬(a:Int)<(c.ts.length:Int):=by omega
   refine⟨.exit 0,[(0,.box 0 0),(12,.p (.bool false))],.inl rfl,loopK_out (o:=.exit 0) ?_ (by simp)⟩
   rw[he0]
   simp[fc44_b0,evKC,evK,put,Env.get,Env.keep,Opd.ev,binD,clsP,cls,clsR,isCl,isW,apartRW,offB,apartWW,clash,insOk,List.map,ldr0,ldr1,lenr,hlt]
theorem skip_eq{s:List UInt8}(hs:s.length≤20000)(q:Sp)(a:Nat)(ha:a≤(rdS s q).ts.length)(bx:List (List D))(t:List Nat):
    callD (call pg) 44 [.box 0 0] (rH (rdS s q) a 0 bx t)=some (.val .undef,rH (rdS s q) (skipP (rdS s q) ((rdS s q).ts.length+1) a) 0 bx t):=by
 have h:(rdS s q).Sz:=rdX_sz s _ _ _ _ _ hs
 obtain⟨out,env,ho,e⟩:=sk_loop h 0 [tabB,tabU,tabS] (rdS s q).tk ((rdS s q).ts.length+1) a [(0,.box 0 0)] rfl ha (by omega)
 refine callD_rd (args:=[]) (ex:=[]) (et:=[]) h.toOk h.toOk rfl (fun _ _=>rfl) (call_body (fc:=fc44) rfl rfl rfl rfl ?_)
 simp only[rH,List.append_nil]
 rcases ho with rfl |rfl<;>simp[fc44,Env.get,Env.keep,entry,finish,evRes,e]
theorem skipP_le{c:Rd}:∀(n a:Nat),a≤c.ts.length→a≤skipP c n a∧skipP c n a≤c.ts.length
 | 0,a,ha=>⟨Nat.le_refl _,ha⟩
 |n+1,a,ha=>by
  unfold skipP
  split
  ·split
   ·omega
   ·have:=skipP_le (c:=c) n (a+1) (by omega);omega
  ·exact⟨Nat.le_refl _,ha⟩
def Sp.flt(q:Sp)(e:Int)(p:Nat):Sp:={q with f:=q.f++[dg e p]}
theorem rdS_flt(s:List UInt8)(q:Sp)(f:List PD):rdS s {q with f:=f}=(rdS s q).flt f [.tsl 1 81 2 (q.S.map sPD),.tsl 2 70 3 (q.F.map fPD),.tsl 3 41 7 (q.P.map pPD),.tsl 4 44 6 (q.A.map aPD)] [q.S.length,q.F.length,q.P.length,q.A.length]:=by
 simp[rdS,rdX,X5,Rd.flt]
theorem five_lt{t:Nat}(h:t<5):t=0∨t=1∨t=2∨t=3∨t=4:=by omega
theorem ren_rdS(s:List UInt8)(q:Sp)(a o:Nat){m1 m2 m3 n1 n2 n3:Nat}{bi ti:Nat→Option Nat}(h1:bi m1=some n1)(h2:bi m2=some n2)(h3:bi m3=some n3)(h0:∀t,t<5→ti t=some t):D.renL bi ti (rM (rdS s q) a o m1 m2 m3)=some (rM (rdS s q) a o n1 n2 n3):=
 ren_rM h1 h2 h3 ((rdX_ok ..).id bi ti h0) a o
theorem refs_rdS(s:List UInt8)(q:Sp)(a o m1 m2 m3:Nat):D.refsL (rM (rdS s q) a o m1 m2 m3)=[m1,m2,m3]:=refs_rM (c:=rdS s q) (rdX_ok ..) a o m1 m2 m3
theorem toks_rdS(s:List UInt8)(q:Sp)(a o m1 m2 m3:Nat):D.toksL (rM (rdS s q) a o m1 m2 m3)=[0,1,2,3,4]:=by rw[toks_rM];rfl
theorem tk_rdS(s:List UInt8)(q:Sp):(rdS s q).tk=[q.f.length,q.S.length,q.F.length,q.P.length,q.A.length]:=by simp[rdS,rdX]
theorem idx5:∀t,t<5→idx [0,1,2,3,4] t=some t:=fun t h=>by
 rcases five_lt h with rfl |rfl |rfl |rfl |rfl<;>rfl
theorem get5:∀t,t<5→(fun t:Nat=>[0,1,2,3,4][t]?) t=some t:=fun t h=>by
 rcases five_lt h with rfl |rfl |rfl |rfl |rfl<;>rfl
theorem call77D{s:List UInt8}{q q':Sp}{ex:List (List D)}{a o a' o':Nat}(b b':Bool){rv:D}(hrv:rv= .p .nili∨∃e p,rv=faultD e p)
    (h:evDef (call pg) pg.D pg.G iterX 77 [rv,.box 0 0,.box 1 0] (H77 (rdS s q) a o b [])=some (.val .undef,H77 (rdS s q') a' o' b' ex)):
    callD (evDef (call pg) pg.D pg.G iterX) 77 [rv,.box 4 0,.box 5 0] (rH (rdS s q) a o [[.box 0 0],[.p (.bool b)]] [])=some (.val .undef,rH (rdS s q') a' o' [[.box 0 0],[.p (.bool b')]] []):=by
 have e0:∀(q:Sp) (a o:Nat) (b:Bool),rH (rdS s q) a o [[.box 0 0],[.p (.bool b)]] []=⟨[rM (rdS s q) a o 1 2 3,tabB,tabU,tabS,[.box 0 0],[.p (.bool b)]],(rdS s q).tk⟩:=fun q a o b=>by simp[rH,rM_rC]
 rw[e0,e0]
 have q0:ins [] (D.refsL [rv,.box 4 0,.box 5 0])=[4,5]:=by rcases hrv with rfl |⟨e,p,rfl⟩<;>rfl
 have q1:reach ⟨[rM (rdS s q) a o 1 2 3,tabB,tabU,tabS,[.box 0 0],[.p (.bool b)]],(rdS s q).tk⟩ 6 (ins [] (D.refsL [rv,.box 4 0,.box 5 0]))=[4,5,0,1,2,3]:=by
  rw[q0]
  simp[reach,boxRefs,ins,refs_rdS,refsB,refsU,refsS,D.refsL,D.refs]
 have q5:mapO (fun i=>match[rM (rdS s q) a o 1 2 3,tabB,tabU,tabS,[.box 0 0],[.p (.bool b)]][i]? with |some cs=>D.renL (idx [4,5,0,1,2,3]) (idx [0,1,2,3,4]) cs |none=>none) [4,5,0,1,2,3]=some (H77 (rdS s q) a o b []).bx:=by
  have k1:=ren_rdS s q a o (m1:=1) (m2:=2) (m3:=3) (n1:=3) (n2:=4) (n3:=5) (bi:=idx [4,5,0,1,2,3]) (ti:=idx [0,1,2,3,4]) rfl rfl rfl idx5
  have k0:idx [4,5,0,1,2,3] 0=some 2:=rfl
  simp[mapO,H77,renB,renU,renS,k1,D.renL,D.ren,k0]
 refine(callD_of (H:=⟨[rM (rdS s q) a o 1 2 3,tabB,tabU,tabS,[.box 0 0],[.p (.bool b)]],(rdS s q).tk⟩) (as1:=[rv,.box 0 0,.box 1 0]) [4,5,0,1,2,3] [0,1,2,3,4] q1 ?_ rfl ?_ q5 rfl h).trans ?_
 ·rcases hrv with rfl |⟨e,p,rfl⟩<;>simp[boxToks,ins,toks_rdS,toksB,toksU,toksS,D.toksL,D.toks,faultD]
 ·rcases hrv with rfl |⟨e,p,rfl⟩<;>rfl
 ·have k2:=ren_rdS s q' a' o' (m1:=3) (m2:=4) (m3:=5) (n1:=1) (n2:=2) (n3:=3) (bi:=fun i=>[4,5,0,1,2,3][i]?) (ti:=fun t=>[0,1,2,3,4][t]?) rfl rfl rfl get5
  simp[back,firstN,mapO,H77,renB,renU,renS,k2,D.renL,D.ren,Res.ren,putAll,tk_rdS]
theorem tryD{s:List UInt8}(hs:s.length≤20000)(q:Sp)(hq:q.Few)(a:Nat)(ha:a≤(rdS s q).ts.length):match declP (rdS s q) q a with
    | .ok q' a'=>∃ex,call pg 43 [.box 0 0,.fn 42 [.box 0 0] []] (rH (rdS s q) a 0 [] [])=some (.val (.p (.bool true)),rH (rdS s q') a' 0 ex [])
    | .bad e p a'=>∃ex,call pg 43 [.box 0 0,.fn 42 [.box 0 0] []] (rH (rdS s q) a 0 [] [])=some (.val (.p (.bool false)),rH (rdS s (q.flt e p)) a' 0 ex []):=by
 have hd:=decl_eq hs q hq a ha
 cases r:declP (rdS s q) q a with
 |ok q' a'=>
  have c1:=hd.okU r [[.box 0 0],[.p (.bool false)]]
  have c2:=call77D (s:=s) (q:=q') true true (.inl rfl) (d77_ok (rdS s q') a' 0 true)
  simp only[rH,List.append_nil,List.map_nil] at c1 c2⊢
  refine⟨[[.box 0 0],[.p (.bool true)]],call_dfr (fc:=fc43) rfl rfl rfl rfl ?_⟩
  simp[fc43,runF,evSeqL,endDfr,evOps,evKC,evK,evGuard,put,Env.get,Env.keep,entry,Opd.ev,finish,evRes,evRes1,D.cells,ld_succ,st_succ,c1,c2,st_one (oB _),ld_one]
 |bad e p a'=>
  obtain⟨o',c1⟩:=hd.badU r
  have c1:=c1 [[.box 0 0],[.p (.bool false)]]
  have hb:=d77_bad (rdS s q) q.f [.tsl 1 81 2 (q.S.map sPD),.tsl 2 70 3 (q.F.map fPD),.tsl 3 41 7 (q.P.map pPD),.tsl 4 44 6 (q.A.map aPD)] [q.S.length,q.F.length,q.P.length,q.A.length] hq.f a' o' false e p
  rw[←rdS_flt s q (q.f++[dg e p]),←rdS_flt s q q.f] at hb
  have c2:=call77D (s:=s) (q:=q) (q':=q.flt e p) false false (.inr ⟨e,p,rfl⟩) hb
  simp only[rH,List.append_nil,List.map_nil] at c1 c2⊢
  refine⟨[[.box 0 0],[.p (.bool false)]],call_dfr (fc:=fc43) rfl rfl rfl rfl ?_⟩
  simp[fc43,runF,evSeqL,endDfr,evOps,evKC,evK,evGuard,put,Env.get,Env.keep,entry,Opd.ev,finish,evRes,evRes1,D.cells,ld_succ,c1,c2,ld_one]
def HP(s:List UInt8)(q:Sp)(a:Nat)(ex:List (List D)):Hp:=⟨[.p .nils,.p .nils,.p .nils,.p .nils]::tabB::tabU::tabS::rM (rdS s q) a 0 1 2 3::ex,(rdS s q).tk⟩
theorem reach4(s:List UInt8)(q:Sp)(a:Nat)(ex:List (List D)):∀n,0<n→reach (HP s q a ex) n [4]=[4,1,2,3]:=by
 have r0:boxRefs (HP s q a ex) [4]=[1,2,3]:=by simp[boxRefs,HP,refs_rdS]
 have r1:boxRefs (HP s q a ex) [4,1,2,3]=[1,2,3]:=by simp[boxRefs,HP,refs_rdS,refsB,refsU,refsS]
 have fx:∀n,reach (HP s q a ex) n [4,1,2,3]=[4,1,2,3]:=fun n=>by
  induction n with
  |zero=>rfl
  |succ n ih=>
   have :ins [4,1,2,3] [1,2,3]=[4,1,2,3]:=rfl
   simp only[reach,r1,this,ih]
 intro n hn
 obtain⟨m,rfl⟩:∃m,n=m+1:=⟨n-1,by omega⟩
 have :ins [4] [1,2,3]=[4,1,2,3]:=rfl
 simp only[reach,r0,this,fx]
theorem call_HP{s:List UInt8}{q q':Sp}{a a':Nat}{ex ex':List (List D)}{g:Nat}{args as1:List D}{d:D}(hd:∀bi ti,d.ren bi ti=some d)
    (h0:ins [] (D.refsL args)=[4]) (h1:D.toksL args=[]) (h4:D.renL (idx [4,1,2,3]) (idx [0,1,2,3,4]) args=some as1)
    (h:call pg g as1 (rH (rdS s q) a 0 [] [])=some (.val d,rH (rdS s q') a' 0 ex' [])):
    callD (call pg) g args (HP s q a ex)=some (.val d,HP s q' a' ex):=by
 have e0:∀(q:Sp) (a:Nat) (ex':List (List D)),rH (rdS s q) a 0 ex' []=⟨rM (rdS s q) a 0 1 2 3::tabB::tabU::tabS::ex',(rdS s q).tk⟩:=fun q a ex'=>by simp[rH,rM_rC]
 rw[e0,e0] at h
 have q1:reach (HP s q a ex) (HP s q a ex).bx.length (ins [] (D.refsL args))=[4,1,2,3]:=by
  rw[h0];exact reach4 s q a ex _ (by simp[HP])
 have q5:mapO (fun i=>match(HP s q a ex).bx[i]? with |some cs=>D.renL (idx [4,1,2,3]) (idx [0,1,2,3,4]) cs |none=>none) [4,1,2,3]=some [rM (rdS s q) a 0 1 2 3,tabB,tabU,tabS]:=by
  have k1:=ren_rdS s q a 0 (m1:=1) (m2:=2) (m3:=3) (n1:=1) (n2:=2) (n3:=3) (bi:=idx [4,1,2,3]) (ti:=idx [0,1,2,3,4]) rfl rfl rfl idx5
  simp[mapO,HP,renB,renU,renS,k1]
 refine(callD_of [4,1,2,3] [0,1,2,3,4] q1 ?_ rfl h4 q5 rfl h).trans ?_
 ·simp[h1,boxToks,ins,HP,toks_rdS,toksB,toksU,toksS]
 ·have k2:=ren_rdS s q' a' 0 (m1:=1) (m2:=2) (m3:=3) (n1:=1) (n2:=2) (n3:=3) (bi:=fun i=>[4,1,2,3][i]?) (ti:=fun t=>[0,1,2,3,4][t]?) rfl rfl rfl get5
  simp[back,firstN,mapO,HP,renB,renU,renS,k2,Res.ren,hd,putAll,tk_rdS]
theorem bind_badI{α β:Type}{x:PR α}{f:α→Nat→PR β}{e:Int}{p a:Nat}(h:x.bind f= .bad e p a):x= .bad e p a∨∃v b,x= .ok v b∧f v b= .bad e p a:=by
 cases x with
 |ok v b=>exact .inr ⟨v,b,rfl,h⟩
 |bad e' p' b=>cases h;exact .inl rfl
structure Bo (c:Rd) (a:Nat) (e:Int) (p a':Nat):Prop where
 le:a≤a'
 len:a'≤c.ts.length
 e0:e≠0
 p:p≤c.e
theorem Bo.mono{c:Rd}{a b:Nat}{e:Int}{p a':Nat}(h:Bo c b e p a')(q:a≤b):Bo c a e p a':=⟨by have:=h.le;omega,h.len,h.e0,h.p⟩
def Po(c:Rd):Prop:=∀i,(c.tok i).p≤c.e
def BoP(c:Rd)(prs:Nat→Nat→PR Nd):Prop:=∀lev a e p a',a≤c.ts.length→prs lev a= .bad e p a'→Bo c a e p a'
section
variable {c : Rd} (hP : Po c)
include hP
theorem wrong_bo{α:Type}{a:Nat}(ha:a≤c.ts.length){e:Int}{p a':Nat}(h:(wrongP c a:PR α)= .bad e p a'):Bo c a e p a':=by
 unfold wrongP at h
 cases h
 exact⟨Nat.le_refl _,ha,by split<;>decide,hP a⟩
theorem expect_bo{a:Nat}(ha:a≤c.ts.length){s:List UInt8}{e:Int}{p a':Nat}(h:expectP c a s= .bad e p a'):Bo c a e p a':=by
 unfold expectP at h
 cases hb:acceptB c a s with
 |true=>rw[hb] at h;cases h
 |false=>rw[hb] at h;exact wrong_bo hP ha h
theorem name_bo{a:Nat}(ha:a≤c.ts.length){e:Int}{p a':Nat}(h:nameP c a= .bad e p a'):Bo c a e p a':=by
 unfold nameP at h
 cases hb:namedB (c.tok a) with
 |true=>rw[hb] at h;cases h
 |false=>rw[hb] at h;exact wrong_bo hP ha h
omit hP in
theorem node_bo{a:Nat}(ha:a≤c.ts.length){n:Nd}{q:Nat}(hq:q≤c.e){e:Int}{p a':Nat}(h:nodeP n q a= .bad e p a'):Bo c a e p a':=by
 unfold nodeP at h
 cases hb:fitsB n.op n.ks with
 |true=>rw[hb] at h;cases h
 |false=>rw[hb] at h;cases h;exact⟨Nat.le_refl _,ha,by decide,hq⟩
theorem number_bo{most a:Nat}(ha:a≤c.ts.length){e:Int}{p a':Nat}(h:numberP c most a= .bad e p a'):Bo c a e p a':=by
 unfold numberP at h
 split at h
 ·split at h
  ·cases h;exact⟨Nat.le_refl _,ha,by decide,hP a⟩
  ·cases h
 ·exact wrong_bo hP ha h
variable {o : Nat} {prs : Nat → Nat → PR Nd} (hp : PrsOk c o prs) (hB : BoP c prs)
include hp hB
theorem quant_bo{op:Int}{q a:Nat}(ha:a≤c.ts.length)(hq:q≤c.e){e:Int}{p a':Nat}(h:quantP c prs op q a= .bad e p a'):Bo c a e p a':=by
 unfold quantP at h
 rcases bind_badI h with h |⟨t,b,h1,h⟩
 ·exact name_bo hP ha h
 obtain⟨w1,w2,_⟩:=name_lt h1
 rcases bind_badI h with h |⟨u,b2,h2,h⟩
 ·exact(expect_bo hP (by omega) h).mono (by omega)
 obtain⟨w3,w4⟩:=expect_lt h2
 rcases bind_badI h with h |⟨x,b3,h3,h⟩
 ·exact(hB _ _ _ _ _ (by omega) h).mono (by omega)
 have w5:=hp.adv _ _ _ _ (by omega) h3
 have w6:=hp.bd _ _ (by omega) _ _ h3
 rcases bind_badI h with h |⟨u4,b4,h4,h⟩
 ·exact(expect_bo hP w6 h).mono (by omega)
 obtain⟨w7,w8⟩:=expect_lt h4
 rcases bind_badI h with h |⟨y,b5,h5,h⟩
 ·exact(hB _ _ _ _ _ (by omega) h).mono (by omega)
 have w9:=hp.adv _ _ _ _ (by omega) h5
 have w10:=hp.bd _ _ (by omega) _ _ h5
 exact(node_bo w10 hq h).mono (by omega)
theorem argsL_bo:∀(n a:Nat) (ks:List Nd) (e:Int) (p a':Nat),a≤c.ts.length→argsL c prs n ks a= .bad e p a'→Bo c a e p a'
 | 0,a,ks,e,p,a',ha,h=>by cases h
 |n+1,a,ks,e,p,a',ha,h=>by
  unfold argsL at h
  split at h
  ·cases h
  ·rcases bind_badI h with h |⟨u,b,h1,h⟩
   ·unfold sepP at h
    split at h
    ·cases h
    ·exact expect_bo hP ha h
   have w1:=sep_bd h1 ha
   have w2:a≤b:=by
    rcases sep_ok h1 ha with⟨_,q⟩ |⟨_,q⟩
    ·omega
    ·have:=(expect_lt q).1;omega
   rcases bind_badI h with h |⟨x,b2,h2,h⟩
   ·exact(hB _ _ _ _ _ w1 h).mono w2
   have w3:=hp.adv _ _ _ _ w1 h2
   have w4:=hp.bd _ _ w1 _ _ h2
   exact(argsL_bo n b2 _ e p a' w4 h).mono (by omega)
theorem primary_bo{a:Nat}(ha:a≤c.ts.length){e:Int}{p a':Nat}(h:primaryP c prs (c.tok a) a= .bad e p a'):Bo c a e p a':=by
 have lt_of:∀{s:List UInt8},s≠[]→(c.tok a).t=s→a<c.ts.length:=fun {s} hs ht=>by
  rcases Nat.lt_or_ge a c.ts.length with q |q
  ·exact q
  ·rw[tok_out q] at ht;exact absurd ht.symm hs
 unfold primaryP at h
 split at h
 ·cases h
 ·split at h
  ·rcases bind_badI h with h |⟨m,b,h1,h⟩
   ·exact number_bo hP ha h
   ·cases h
  ·split at h
   ·rename_i hm
    have hlt:=lt_of (by simp) hm.1
    rcases bind_badI h with h |⟨m,b,h1,h⟩
    ·exact(number_bo hP hlt h).mono (by omega)
    ·cases h
   ·split at h
    ·rename_i hm
     have hlt:=lt_of (by simp) hm
     exact(wrong_bo hP hlt h).mono (by omega)
    ·split at h
     ·rename_i hac
      have hlt:=accept_lt hac
      unfold noneP at h
      split at h
      ·rename_i hac2
       have hlt2:=accept_lt hac2
       split at h
       ·rcases bind_badI h with h |⟨n,b,h1,h⟩
        ·exact(number_bo hP (by omega) h).mono (by omega)
        obtain⟨w1,rfl⟩:=number_bd h1
        rcases bind_badI h with h |⟨u,b2,h2,h⟩
        ·exact(expect_bo hP (by omega) h).mono (by omega)
        ·cases h
       ·exact(wrong_bo hP (by omega) h).mono (by omega)
      ·cases h
     ·split at h
      ·rename_i hac
       have hlt:=accept_lt hac
       rcases bind_badI h with h |⟨n,b,h1,h⟩
       ·exact(quant_bo hP hp hB (by omega) (hP a) h).mono (by omega)
       have w:=quant_adv hp h1
       rcases bind_badI h with h |⟨u,b2,h2,h⟩
       ·exact(expect_bo hP (by omega) h).mono (by omega)
       ·cases h
      ·split at h
       ·rename_i hac
        have hlt:=accept_lt hac
        rcases bind_badI h with h |⟨n,b,h1,h⟩
        ·exact(hB _ _ _ _ _ (by omega) h).mono (by omega)
        have w1:=hp.adv _ _ _ _ (by omega) h1
        have w2:=hp.bd _ _ (by omega) _ _ h1
        rcases bind_badI h with h |⟨u,b2,h2,h⟩
        ·exact(expect_bo hP (by omega) h).mono (by omega)
        ·cases h
       ·rcases bind_badI h with h |⟨t,b,h1,h⟩
        ·exact name_bo hP ha h
        obtain⟨w1,w2,_⟩:=name_lt h1
        split at h
        ·rename_i hac
         have hlt:=accept_lt hac
         rw[argsP_argsL] at h
         rcases bind_badI h with h |⟨ks,b2,h2,h⟩
         ·exact(argsL_bo hP hp hB _ _ _ _ _ _ (by omega) h).mono (by omega)
         have w3:=argsL_bd hp _ _ _ _ _ (by omega) h2
         exact(node_bo w3.2 (hP a) h).mono (by omega)
        ·cases h
omit hp hB in
theorem primes_bo:∀(m:Nat) (n:Nd) (a:Nat) (e:Int) (p a':Nat),a≤c.ts.length→primesP c m n a= .bad e p a'→Bo c a e p a'
 | 0,n,a,e,p,a',ha,h=>by cases h
 |m+1,n,a,e,p,a',ha,h=>by
  unfold primesP at h
  split at h
  ·rename_i ht
   have hlt:a<c.ts.length:=by
    rcases Nat.lt_or_ge a c.ts.length with q |q
    ·exact q
    ·rw[tok_out q] at ht;simp at ht
   rcases bind_badI h with h |⟨x,b,h1,h⟩
   ·exact(node_bo (by omega) (hP a) h).mono (by omega)
   obtain⟨rfl,rfl,_⟩:=node_inv h1
   exact(primes_bo m _ _ e p a' (by omega) h).mono (by omega)
  ·cases h
theorem operand_bo{a:Nat}(ha:a≤c.ts.length){e:Int}{p a':Nat}(h:operandP c prs a= .bad e p a'):Bo c a e p a':=by
 have key:((primaryP c prs (c.tok a) a).bind fun n a=>primesP c (c.ts.length+1) n a)= .bad e p a'→Bo c a e p a':=by
  intro h
  rcases bind_badI h with h |⟨x,b,h1,h⟩
  ·exact primary_bo hP hp hB ha h
  have w:=primary_bd hp ha h1
  exact(primes_bo hP _ _ _ _ _ _ w.2 h).mono (by omega)
 have lt_of:∀{s:List UInt8},s≠[]→(c.tok a).t=s→a<c.ts.length:=fun {s} hs ht=>by
  rcases Nat.lt_or_ge a c.ts.length with q |q
  ·exact q
  ·rw[tok_out q] at ht;exact absurd ht.symm hs
 unfold operandP at h
 dsimp only at h
 split at h
 ·rename_i ht
  have:=lt_of (by simp) ht.2
  exact(quant_bo hP hp hB (by omega) (hP a) h).mono (by omega)
 ·split at h
  ·rename_i ht
   have:=lt_of (by simp) ht.1
   exact(quant_bo hP hp hB (by omega) (hP a) h).mono (by omega)
  ·split at h
   ·split at h
    ·rename_i hk
     have hlt:a<c.ts.length:=by
      rcases Nat.lt_or_ge a c.ts.length with q |q
      ·exact q
      ·exact absurd (by rw[tok_out q]) hk
     rcases bind_badI h with h |⟨x,b,h1,h⟩
     ·exact(hB _ _ _ _ _ (by omega) h).mono (by omega)
     have w1:=hp.adv _ _ _ _ (by omega) h1
     have w2:=hp.bd _ _ (by omega) _ _ h1
     exact(node_bo w2 (hP a) h).mono (by omega)
    ·exact key h
   ·exact key h
theorem ops_bo{lev:Nat}:∀(m:Nat) (cmp:Bool) (x:Nd) (a:Nat) (e:Int) (p a':Nat),a≤c.ts.length→opsP c prs lev m cmp x a= .bad e p a'→Bo c a e p a'
 | 0,cmp,x,a,e,p,a',ha,h=>by cases h
 |m+1,cmp,x,a,e,p,a',ha,h=>by
  unfold opsP at h
  dsimp only at h
  split at h
  ·cases h
  ·split at h
   ·cases h
   ·rename_i hst
    have hlt:a<c.ts.length:=by
     rcases Nat.lt_or_ge a c.ts.length with q |q
     ·exact q
     ·exact absurd (.inl (by rw[tok_out q])) hst
    rcases bind_badI h with h |⟨y,b,h1,h⟩
    ·exact(hB _ _ _ _ _ (by omega) h).mono (by omega)
    have w1:=hp.adv _ _ _ _ (by omega) h1
    have w2:=hp.bd _ _ (by omega) _ _ h1
    rcases bind_badI h with h |⟨z,b2,h2,h⟩
    ·unfold joinedP at h
     split at h
     ·cases h;exact⟨by omega,w2,by decide,hP a⟩
     ·rcases bind_badI h with h |⟨z,b3,h3,h⟩
      ·exact(node_bo w2 (hP a) h).mono (by omega)
      ·cases h
    have w3:=(joined_sz h2).2
    exact(ops_bo m _ _ _ e p a' (by omega) h).mono (by omega)
end
theorem parse_bo{c:Rd}(h:c.Sz)(hP:Po c):∀d,d≤100→BoP c (parseP c (d+1))
 | 0,_=>fun lev a e p a' ha h'=>by
  rw[parseP_one h] at h'
  split at h'
  ·cases h';exact⟨Nat.le_refl _,ha,by decide,hP a⟩
  ·exact wrong_bo hP ha h'
 |d+1,hd=>fun lev a e p a' ha h'=>by
  have hp:=prs_ok h d (by omega)
  have hB:=parse_bo h hP d (by omega)
  rw[parseP_succ] at h'
  rcases bind_badI h' with h' |⟨x,b,h1,h'⟩
  ·exact operand_bo hP hp hB ha h'
  have w:=operand_bd hp ha h1
  exact(ops_bo hP hp hB _ _ _ _ _ _ _ w.2 h').mono (by omega)
theorem whole_bo{c:Rd}(h:c.Sz)(hP:Po c){a:Nat}(ha:a≤c.ts.length){e:Int}{p a':Nat}(hw:wholeP c a= .bad e p a'):Bo c a e p a':=by
 have hp:=prs_ok h 100 (by omega)
 unfold wholeP at hw
 rcases bind_badI hw with hw |⟨x,b,h1,hw⟩
 ·exact parse_bo h hP 100 (by omega) _ _ _ _ _ ha hw
 have w1:=hp.adv _ _ _ _ ha h1
 have w2:=hp.bd _ _ ha _ _ h1
 split at hw
 ·cases hw;exact⟨by omega,w2,by decide,hP a⟩
 ·split at hw
  ·cases hw;exact⟨by omega,w2,by decide,hP a⟩
  ·cases hw
theorem block_bo{c:Rd}(h:c.Sz)(hP:Po c){a:Nat}(ha:a≤c.ts.length){e:Int}{p a':Nat}(hw:blockP c a= .bad e p a'):Bo c a e p a':=by
 unfold blockP at hw
 rcases bind_badI hw with hw |⟨u,b,h1,hw⟩
 ·exact expect_bo hP ha hw
 obtain⟨w1,w2⟩:=expect_lt h1
 rcases bind_badI hw with hw |⟨n,b2,h2,hw⟩
 ·exact(whole_bo h hP (by omega) hw).mono (by omega)
 obtain⟨w3,w4,_⟩:=whole_lt h (by omega) h2
 rcases bind_badI hw with hw |⟨u3,b3,h3,hw⟩
 ·exact(expect_bo hP (by omega) hw).mono (by omega)
 ·cases hw
section
variable {c : Rd} (h : c.Sz) (hP : Po c)
include hP
theorem sort_bo{S:List (List UInt8×Bool)}{a:Nat}(ha:a≤c.ts.length){e:Int}{p a':Nat}(hw:sortP c S a= .bad e p a'):Bo c a e p a':=by
 unfold sortP at hw
 split at hw
 ·split at hw
  ·cases hw
  ·cases hw;exact⟨Nat.le_refl _,ha,by decide,hP a⟩
 ·exact wrong_bo hP ha hw
theorem sorts_bo{S:List (List UInt8×Bool)}:∀(n:Nat) (l:List Nat) (a:Nat) (e:Int) (p a':Nat),a≤c.ts.length→sortsP c S n l a= .bad e p a'→Bo c a e p a'
 | 0,l,a,e,p,a',ha,h=>by cases h
 |n+1,l,a,e,p,a',ha,h=>by
  unfold sortsP at h
  split at h
  ·rename_i hac
   have hlt:=accept_lt hac
   rcases bind_badI h with h |⟨i,b,h1,h⟩
   ·exact(sort_bo hP (by omega) h).mono (by omega)
   obtain⟨w1,w2,_⟩:=sort_lt h1
   exact(sorts_bo n _ _ e p a' (by omega) h).mono (by omega)
  ·cases h
omit hP in
theorem sorts_le{S:List (List UInt8×Bool)}:∀(n:Nat) (l:List Nat) (a:Nat) (l':List Nat) (a':Nat),a≤c.ts.length→sortsP c S n l a= .ok l' a'→a≤a'∧a'≤c.ts.length∧l'.length≤l.length+n
 | 0,l,a,l',a',ha,h=>by cases h;omega
 |n+1,l,a,l',a',ha,h=>by
  unfold sortsP at h
  split at h
  ·obtain⟨i,b,h1,h⟩:=bind_inv h
   obtain⟨w1,w2,_⟩:=sort_lt h1
   have:=sorts_le n _ _ l' a' (by omega) h
   simp only[List.length_append,List.length_cons,List.length_nil] at this
   omega
  ·cases h;omega
theorem params_bo{S:List (List UInt8×Bool)}:∀(n:Nat) (l:List (List UInt8×Nat)) (a:Nat) (e:Int) (p a':Nat),a≤c.ts.length→paramsP c S n l a= .bad e p a'→Bo c a e p a'
 | 0,l,a,e,p,a',ha,h=>by cases h
 |n+1,l,a,e,p,a',ha,h=>by
  unfold paramsP at h
  split at h
  ·cases h
  ·rcases bind_badI h with h |⟨u,b,h1,h⟩
   ·unfold sepM at h
    split at h
    ·cases h
    ·exact expect_bo hP ha h
   obtain⟨w1,w2⟩:=sepM_le h1 ha
   rcases bind_badI h with h |⟨t,b2,h2,h⟩
   ·exact(name_bo hP w2 h).mono w1
   obtain⟨w3,w4,_⟩:=name_lt h2
   rcases bind_badI h with h |⟨u3,b3,h3,h⟩
   ·exact(expect_bo hP (by omega) h).mono (by omega)
   obtain⟨w5,w6⟩:=expect_lt h3
   rcases bind_badI h with h |⟨i,b4,h4,h⟩
   ·exact(sort_bo hP (by omega) h).mono (by omega)
   obtain⟨w7,w8,_⟩:=sort_lt h4
   exact(params_bo n _ _ e p a' (by omega) h).mono (by omega)
omit hP in
theorem params_le{S:List (List UInt8×Bool)}:∀(n:Nat) (l:List (List UInt8×Nat)) (a:Nat) (l':List (List UInt8×Nat)) (a':Nat),a≤c.ts.length→paramsP c S n l a= .ok l' a'→a≤a'∧a'≤c.ts.length
 | 0,l,a,l',a',ha,h=>by cases h;omega
 |n+1,l,a,l',a',ha,h=>by
  unfold paramsP at h
  split at h
  ·rename_i hac
   have:=accept_lt hac
   cases h;omega
  ·obtain⟨u,b,h1,h⟩:=bind_inv h
   obtain⟨w1,w2⟩:=sepM_le h1 ha
   obtain⟨t,b2,h2,h⟩:=bind_inv h
   obtain⟨w3,w4,_⟩:=name_lt h2
   obtain⟨u3,b3,h3,h⟩:=bind_inv h
   obtain⟨w5,w6⟩:=expect_lt h3
   obtain⟨i,b4,h4,h⟩:=bind_inv h
   obtain⟨w7,w8,_⟩:=sort_lt h4
   have:=params_le n _ _ l' a' (by omega) h
   omega
omit hP in
theorem acN_le(a:Nat)(s:List UInt8)(ha:a≤c.ts.length):a≤acN c a s∧acN c a s≤c.ts.length:=by
 unfold acN
 split
 ·rename_i hac
  have:=accept_lt hac
  omega
 ·exact⟨Nat.le_refl _,ha⟩
include h
theorem decl_bo{q:Sp}{a:Nat}(ha:a<c.ts.length){e:Int}{p a':Nat}(hw:declP c q a= .bad e p a'):Bo c a e p a':=by
 unfold declP at hw
 split at hw
 ·unfold sortDeclP at hw
  split at hw
  ·cases hw;exact⟨Nat.le_refl _,by omega,by decide,hP a⟩
  ·rcases bind_badI hw with hw |⟨t,b,h1,hw⟩
   ·exact(name_bo hP (by omega) hw).mono (by omega)
   obtain⟨w1,w2,_⟩:=name_lt h1
   obtain⟨w3,w4⟩:=acN_le (c:=c) b [111,114,100,101,114,101,100] (by omega)
   rcases bind_badI hw with hw |⟨u,b2,h2,hw⟩
   ·exact(expect_bo hP w4 hw).mono (by omega)
   ·cases hw
 ·split at hw
  ·unfold fieldDeclP at hw
   split at hw
   ·cases hw;exact⟨Nat.le_refl _,by omega,by decide,hP a⟩
   ·obtain⟨w1,w2⟩:=acN_le (c:=c) a [118,97,114] (by omega)
    rcases bind_badI hw with hw |⟨u,b,h1,hw⟩
    ·exact(expect_bo hP w2 hw).mono w1
    obtain⟨w3,w4⟩:=expect_lt h1
    rcases bind_badI hw with hw |⟨t,b2,h2,hw⟩
    ·exact(name_bo hP (by omega) hw).mono (by omega)
    obtain⟨w5,w6,_⟩:=name_lt h2
    rcases bind_badI hw with hw |⟨u3,b3,h3,hw⟩
    ·exact(expect_bo hP (by omega) hw).mono (by omega)
    obtain⟨w7,w8⟩:=expect_lt h3
    rcases bind_badI hw with hw |⟨i,b4,h4,hw⟩
    ·exact(sort_bo hP (by omega) hw).mono (by omega)
    obtain⟨w9,w10,_⟩:=sort_lt h4
    rcases bind_badI hw with hw |⟨l,b5,h5,hw⟩
    ·exact(sorts_bo hP _ _ _ _ _ _ (by omega) hw).mono (by omega)
    obtain⟨w11,w12,_⟩:=sorts_le _ _ _ _ _ (by omega) h5
    rcases bind_badI hw with hw |⟨u6,b6,h6,hw⟩
    ·exact(expect_bo hP w12 hw).mono (by omega)
    ·cases hw
  ·split at hw
   ·unfold predDeclP at hw
    split at hw
    ·cases hw;exact⟨Nat.le_refl _,by omega,by decide,hP a⟩
    ·rcases bind_badI hw with hw |⟨t,b,h1,hw⟩
     ·exact(name_bo hP (by omega) hw).mono (by omega)
     obtain⟨w1,w2,_⟩:=name_lt h1
     rcases bind_badI hw with hw |⟨u,b2,h2,hw⟩
     ·exact(expect_bo hP (by omega) hw).mono (by omega)
     obtain⟨w3,w4⟩:=expect_lt h2
     rcases bind_badI hw with hw |⟨l,b3,h3,hw⟩
     ·exact(params_bo hP _ _ _ _ _ _ (by omega) hw).mono (by omega)
     obtain⟨w5,w6⟩:=params_le _ _ _ _ _ (by omega) h3
     rcases bind_badI hw with hw |⟨n,b4,h4,hw⟩
     ·exact(block_bo h hP w6 hw).mono (by omega)
     ·cases hw
   ·split at hw
    ·unfold factDeclP at hw
     split at hw
     ·cases hw;exact⟨Nat.le_refl _,by omega,by decide,hP a⟩
     ·rcases bind_badI hw with hw |⟨t,b,h1,hw⟩
      ·exact(name_bo hP (by omega) hw).mono (by omega)
      obtain⟨w1,w2,_⟩:=name_lt h1
      rcases bind_badI hw with hw |⟨n,b2,h2,hw⟩
      ·exact(block_bo h hP (by omega) hw).mono (by omega)
      ·cases hw
    ·exact wrong_bo hP (by omega) hw
omit hP in
theorem decl_lt{q:Sp}{a:Nat}(ha:a<c.ts.length){q':Sp}{a':Nat}(hw:declP c q a= .ok q' a'):a<a'∧a'≤c.ts.length:=by
 unfold declP at hw
 split at hw
 ·unfold sortDeclP at hw
  split at hw
  ·cases hw
  ·obtain⟨t,b,h1,hw⟩:=bind_inv hw
   obtain⟨w1,w2,_⟩:=name_lt h1
   obtain⟨w3,w4⟩:=acN_le (c:=c) b [111,114,100,101,114,101,100] (by omega)
   obtain⟨u,b2,h2,hw⟩:=bind_inv hw
   obtain⟨w5,w6⟩:=expect_lt h2
   cases hw;omega
 ·split at hw
  ·unfold fieldDeclP at hw
   split at hw
   ·cases hw
   ·obtain⟨w1,w2⟩:=acN_le (c:=c) a [118,97,114] (by omega)
    obtain⟨u,b,h1,hw⟩:=bind_inv hw
    obtain⟨w3,w4⟩:=expect_lt h1
    obtain⟨t,b2,h2,hw⟩:=bind_inv hw
    obtain⟨w5,w6,_⟩:=name_lt h2
    obtain⟨u3,b3,h3,hw⟩:=bind_inv hw
    obtain⟨w7,w8⟩:=expect_lt h3
    obtain⟨i,b4,h4,hw⟩:=bind_inv hw
    obtain⟨w9,w10,_⟩:=sort_lt h4
    obtain⟨l,b5,h5,hw⟩:=bind_inv hw
    obtain⟨w11,w12,_⟩:=sorts_le _ _ _ _ _ (by omega) h5
    obtain⟨u6,b6,h6,hw⟩:=bind_inv hw
    obtain⟨w13,w14⟩:=expect_lt h6
    cases hw;omega
  ·split at hw
   ·unfold predDeclP at hw
    split at hw
    ·cases hw
    ·obtain⟨t,b,h1,hw⟩:=bind_inv hw
     obtain⟨w1,w2,_⟩:=name_lt h1
     obtain⟨u,b2,h2,hw⟩:=bind_inv hw
     obtain⟨w3,w4⟩:=expect_lt h2
     obtain⟨l,b3,h3,hw⟩:=bind_inv hw
     obtain⟨w5,w6⟩:=params_le _ _ _ _ _ (by omega) h3
     obtain⟨n,b4,h4,hw⟩:=bind_inv hw
     obtain⟨w7,w8,_⟩:=block_lt h h4
     cases hw;omega
   ·split at hw
    ·unfold factDeclP at hw
     split at hw
     ·cases hw
     ·obtain⟨t,b,h1,hw⟩:=bind_inv hw
      obtain⟨w1,w2,_⟩:=name_lt h1
      obtain⟨n,b2,h2,hw⟩:=bind_inv hw
      obtain⟨w3,w4,_⟩:=block_lt h h2
      cases hw;omega
    ·exact absurd hw wrongP_bad
end
end Go.Proofs.YtalgjkpkkdljaaaGreatDoor
namespace Go.Proofs.YtalgjkpkkdljaaaGreatDoor
open Go.Vs
def specL(s:List UInt8):Nat→Sp→Nat→Sp
 | 0,q,_=>q
 |n+1,q,a=>if a<(rdS s q).ts.length∧q.f.length<20 then
     (match declP (rdS s q) q a with
     | .ok q' a'=>specL s n q' a'
     | .bad e p a'=>if e=21 then q.flt e p else specL s n (q.flt e p) (skipP (rdS s q) ((rdS s q).ts.length+1) a'))
  else q
section
variable {G : Nat → Option (List PD)} {bx : List (List D)} {tk : List Nat} {s : List UInt8} {q : Sp} {a o m1 m2 m3 : Nat}
theorem ldS0:loadD G ⟨rM (rdS s q) a o m1 m2 m3::bx,tk⟩ none (.box 0 0)=some (.p (slP 3 ((rdS s q).l.map Tok.pd))):=rfl
theorem ldS1:loadD G ⟨rM (rdS s q) a o m1 m2 m3::bx,tk⟩ none (.box 0 1)=some (.p (.int .i64 a)):=rfl
theorem ldS7:loadD G ⟨rM (rdS s q) a o m1 m2 m3::bx,tk⟩ none (.box 0 7)=some (.tsl 0 34 2 q.f):=rfl
theorem ldS8:loadD G ⟨rM (rdS s q) a o m1 m2 m3::bx,tk⟩ (some 4) (.box 0 8)=some (.agg [.tsl 1 81 2 (q.S.map sPD),.tsl 2 70 3 (q.F.map fPD),.tsl 3 41 7 (q.P.map pPD),.tsl 4 44 6 (q.A.map aPD)]):=rfl
end
def psE:Env:=[(2,.box 0 0),(4,.box 4 0),(6,.fn 42 [.box 4 0] [])]
theorem hp_loc(s:List UInt8)(q:Sp)(a:Nat)(out:Out)(env:Env)(ho:out.ren (below 5) (below 5)=some out):
    locD 5 5 (out,⟨env,HP s q a []⟩)=(out,⟨env.map fun y=>(y.1,(y.2.ren (below 5) (below 5)).getD .dead),HP s q a []⟩):=by
 have k1:=ren_rdS s q a 0 (m1:=1) (m2:=2) (m3:=3) (n1:=1) (n2:=2) (n3:=3) (bi:=below 5) (ti:=below 5) rfl rfl rfl (fun t ht=>by simp[below,ht])
 have e1:mapO (D.renL (below 5) (below 5)) [[.p .nils,.p .nils,.p .nils,.p .nils],tabB,tabU,tabS,rM (rdS s q) a 0 1 2 3]=some [[.p .nils,.p .nils,.p .nils,.p .nils],tabB,tabU,tabS,rM (rdS s q) a 0 1 2 3]:=by
  simp[mapO,renB,renU,renS,k1,D.renL,D.ren]
 unfold locD
 simp only[HP,List.take_succ_cons,List.take_zero,e1,ho,tk_rdS,List.length_cons,List.length_nil]
 simp
theorem skipP_congr{c c':Rd}(h:c.ts=c'.ts)(ht:∀i,c.tok i=c'.tok i):∀n a,skipP c n a=skipP c' n a
 | 0,a=>rfl
 |n+1,a=>by
  unfold skipP
  rw[h,ht,skipP_congr h ht n (a+1)]
section
variable {s : List UInt8} (hs : s.length ≤ 20000)
include hs
theorem ps_end(q:Sp)(a:Nat)(hc:¬(a<(rdS s q).ts.length∧q.f.length<20)):
    ∃env,evS (call pg) pg.G iterX fc14_b0 ⟨psE,HP s q a []⟩=some (.exit 0,⟨env,HP s q a []⟩)∧env.get 2= .box 0 0∧env.get 4= .box 4 0:=by
 have h:(rdS s q).Sz:=rdX_sz s _ _ _ _ _ hs
 have hloc:=fun env=>hp_loc s q a (.exit 0) env rfl
 have htk:(rdS s q).tk.length=5:=by rw[tk_rdS];rfl
 have hlen:lenD 1 (.tsl 0 34 2 q.f)=some q.f.length:=lenD_tsl ..
 simp only[psE,HP] at hloc⊢
 by_cases h1:a<(rdS s q).ts.length
 ·have h2:¬q.f.length<20:=fun w=>hc ⟨h1,w⟩
  have h1':(a:Int)<((rdS s q).ts.length:Int):=by omega
  have h2':¬(q.f.length:Int)<20:=by omega
  apply Exists.intro
  refine⟨?_,?_,?_⟩
  ·conv=>lhs;simp[fc14_b0,evKC,evK,evGuard,put,Env.get,Env.keep,entry,Opd.ev,splice,cutAt,indexD,D.asInt?,D.asNat?,u8,binD,strBin,unD,boundsD,sliceD,iaddrD,sub,minmaxD,eqvL,PD.eqv,clsP,cls,clsR,isCl,isW,apartRW,offB,apartWW,clash,insOk,finish,evRes,evRes1,mapO,D.cells,PD.cells,D.refsL,D.refs,D.toksL,D.toks,mkAgg,pures,fillD,fillE,appendD,srcD,D.elems?,D.asPD,Int.toNat_natCast,srcH,srcBH,eqD,D.asPDL,isMapC,ld_succ,ld_zero,st_succ,st_zero,oI,oS,oN,oP,oB,oL,oT,oF,oE,ldr0,ldr1,ldr2,ldr3,ldr4,ldr5,ldr6,str1',str3',ldS0,ldS1,ldS7,lenr,hlen,h1,h1',h2',htk,hloc,D.ren,below]
  all_goals rfl
 ·have h1':¬(a:Int)<((rdS s q).ts.length:Int):=by omega
  apply Exists.intro
  refine⟨?_,?_,?_⟩
  ·conv=>lhs;simp[fc14_b0,evKC,evK,evGuard,put,Env.get,Env.keep,entry,Opd.ev,splice,cutAt,indexD,D.asInt?,D.asNat?,u8,binD,strBin,unD,boundsD,sliceD,iaddrD,sub,minmaxD,eqvL,PD.eqv,clsP,cls,clsR,isCl,isW,apartRW,offB,apartWW,clash,insOk,finish,evRes,evRes1,mapO,D.cells,PD.cells,D.refsL,D.refs,D.toksL,D.toks,mkAgg,pures,fillD,fillE,appendD,srcD,D.elems?,D.asPD,Int.toNat_natCast,srcH,srcBH,eqD,D.asPDL,isMapC,ld_succ,ld_zero,st_succ,st_zero,oI,oS,oN,oP,oB,oL,oT,oF,oE,ldr0,ldr1,ldr2,ldr3,ldr4,ldr5,ldr6,str1',str3',ldS0,ldS1,ldS7,lenr,hlen,h1,h1',htk,hloc,D.ren,below]
  all_goals rfl
theorem ps_ok(q:Sp)(hq:q.Few)(a:Nat)(h1:a<(rdS s q).ts.length)(h2:q.f.length<20){q':Sp}{a':Nat}(hd:declP (rdS s q) q a= .ok q' a'):
    evS (call pg) pg.G iterX fc14_b0 ⟨psE,HP s q a []⟩=some (.norm,⟨psE++[(40,.p (.bool false))],HP s q' a' []⟩):=by
 have h:(rdS s q).Sz:=rdX_sz s _ _ _ _ _ hs
 have hloc:=fun env=>hp_loc s q' a' .norm env rfl
 have htk:∀q,(rdS s q).tk.length=5:=fun q=>by rw[tk_rdS];rfl
 have hlen:lenD 1 (.tsl 0 34 2 q.f)=some q.f.length:=lenD_tsl ..
 have h1':(a:Int)<((rdS s q).ts.length:Int):=by omega
 have h2':(q.f.length:Int)<20:=by omega
 have ht:=tryD hs q hq a (by omega)
 rw[hd] at ht
 obtain⟨ex,ht⟩:=ht
 have hc:=call_HP (args:=[.box 4 0,.fn 42 [.box 4 0] []]) (ex:=[]) (fun _ _=>rfl) rfl rfl rfl ht
 simp only[psE,HP] at hloc hc⊢
 simp[fc14_b0,evKC,evK,evGuard,put,Env.get,Env.keep,Opd.ev,binD,unD,clsP,cls,clsR,isCl,isW,apartRW,offB,apartWW,clash,insOk,ld_succ,ldS0,ldS1,ldS7,lenr,hlen,h1',h2',htk,hc,hloc,D.ren,D.renL,below]
theorem ps_bad(q:Sp)(hq:q.Few)(a:Nat)(h1:a<(rdS s q).ts.length)(h2:q.f.length<20){e:Int}{p a':Nat}(hd:declP (rdS s q) q a= .bad e p a')(ha':a'≤(rdS s q).ts.length)(he:e≠21):
    evS (call pg) pg.G iterX fc14_b0 ⟨psE,HP s q a []⟩=some (.norm,⟨psE,HP s (q.flt e p) (skipP (rdS s q) ((rdS s q).ts.length+1) a') []⟩):=by
 have h:(rdS s q).Sz:=rdX_sz s _ _ _ _ _ hs
 have hloc:=fun env a=>hp_loc s (q.flt e p) a .norm env rfl
 have htk:∀q,(rdS s q).tk.length=5:=fun q=>by rw[tk_rdS];rfl
 have hlen:lenD 1 (.tsl 0 34 2 q.f)=some q.f.length:=lenD_tsl ..
 have hlen2:lenD 1 (.tsl 0 34 2 (q.flt e p).f)=some (q.f.length+1):=by rw[lenD_tsl];simp[Sp.flt]
 have h1':(a:Int)<((rdS s q).ts.length:Int):=by omega
 have h2':(q.f.length:Int)<20:=by omega
 have ht:=tryD hs q hq a (by omega)
 rw[hd] at ht
 obtain⟨ex,ht⟩:=ht
 have hc:=call_HP (args:=[.box 4 0,.fn 42 [.box 4 0] []]) (ex:=[]) (fun _ _=>rfl) rfl rfl rfl ht
 have hts:(rdS s (q.flt e p)).ts=(rdS s q).ts:=rfl
 have hsk1:∃ex,call pg 44 [.box 0 0] (rH (rdS s (q.flt e p)) a' 0 [] [])=some (.val .undef,rH (rdS s (q.flt e p)) (skipP (rdS s q) ((rdS s q).ts.length+1) a') 0 ex []):=by
  have h':(rdS s (q.flt e p)).Sz:=rdX_sz s _ _ _ _ _ hs
  obtain⟨out,env,ho,ee⟩:=sk_loop h' 0 [tabB,tabU,tabS] (rdS s (q.flt e p)).tk ((rdS s (q.flt e p)).ts.length+1) a' [(0,.box 0 0)] rfl (by rw[hts];exact ha') (by omega)
  refine⟨[],call_body (fc:=fc44) rfl rfl rfl rfl ?_⟩
  simp only[rH,List.append_nil]
  rw[skipP_congr (c:=rdS s (q.flt e p)) (c':=rdS s q) rfl (fun _=>rfl),hts] at ee
  rcases ho with rfl |rfl<;>simp[fc44,Env.get,Env.keep,entry,finish,evRes,ee]
 obtain⟨ex2,hsk1⟩:=hsk1
 have hsk:=call_HP (args:=[.box 4 0]) (ex:=[]) (fun _ _=>rfl) rfl rfl rfl hsk1
 have hw:IntKind.i64.wrap (q.f.length:Int)=(q.f.length:Int):=wrap64 (by omega) (by omega)
 have hi:iaddrD none 2 (.tsl 0 34 2 (q.flt e p).f) (q.f.length:Int)=some (.ro [.int .i64 e,.int .i64 p] 0):=by
  simp[iaddrD,D.elems?,Sp.flt,dg,PD.cells]
 have lr:∀G H,loadD G H none (.ro [.int .i64 e,.int .i64 p] 0)=some (.p (.int .i64 e)):=fun _ _=>rfl
 have he':(e==21)=false:=by simp[he]
 simp only[psE,HP] at hloc hc hsk⊢
 generalize skipP (rdS s q) ((rdS s q).ts.length+1) a'=a2 at *
 generalize hq2:q.flt e p=q2 at *
 simp[fc14_b0,evKC,evK,evGuard,put,Env.get,Env.keep,Opd.ev,D.asInt?,binD,unD,clsP,cls,clsR,isCl,isW,apartRW,offB,apartWW,clash,insOk,ld_succ,ldS0,ldS1,ldS7,lenr,hlen,hlen2,h1',h2',htk,hc,hsk,hw,hi,lr,he',hloc,D.ren,D.renL,below]
theorem ps_stop(q:Sp)(hq:q.Few)(a:Nat)(h1:a<(rdS s q).ts.length)(h2:q.f.length<20){p a':Nat}(hd:declP (rdS s q) q a= .bad 21 p a'):
    ∃env,evS (call pg) pg.G iterX fc14_b0 ⟨psE,HP s q a []⟩=some (.exit 0,⟨env,HP s (q.flt 21 p) a' []⟩)∧env.get 2= .box 0 0∧env.get 4= .box 4 0:=by
 have h:(rdS s q).Sz:=rdX_sz s _ _ _ _ _ hs
 have hloc:=fun env=>hp_loc s (q.flt 21 p) a' (.exit 0) env rfl
 have htk:∀q,(rdS s q).tk.length=5:=fun q=>by rw[tk_rdS];rfl
 have hlen:lenD 1 (.tsl 0 34 2 q.f)=some q.f.length:=lenD_tsl ..
 have hlen2:lenD 1 (.tsl 0 34 2 (q.flt 21 p).f)=some (q.f.length+1):=by rw[lenD_tsl];simp[Sp.flt]
 have h1':(a:Int)<((rdS s q).ts.length:Int):=by omega
 have h2':(q.f.length:Int)<20:=by omega
 have ht:=tryD hs q hq a (by omega)
 rw[hd] at ht
 obtain⟨ex,ht⟩:=ht
 have hc:=call_HP (args:=[.box 4 0,.fn 42 [.box 4 0] []]) (ex:=[]) (fun _ _=>rfl) rfl rfl rfl ht
 have hw:IntKind.i64.wrap (q.f.length:Int)=(q.f.length:Int):=wrap64 (by omega) (by omega)
 have hi:iaddrD none 2 (.tsl 0 34 2 (q.flt 21 p).f) (q.f.length:Int)=some (.ro [.int .i64 21,.int .i64 p] 0):=by
  simp[iaddrD,D.elems?,Sp.flt,dg,PD.cells]
 have lr:∀G H,loadD G H none (.ro [.int .i64 21,.int .i64 p] 0)=some (.p (.int .i64 21)):=fun _ _=>rfl
 simp only[psE,HP] at hloc hc⊢
 generalize hq2:q.flt 21 p=q2 at *
 apply Exists.intro
 refine⟨?_,?_,?_⟩
 ·conv=>lhs;simp[fc14_b0,evKC,evK,evGuard,put,Env.get,Env.keep,entry,Opd.ev,splice,cutAt,indexD,D.asInt?,D.asNat?,u8,binD,strBin,unD,boundsD,sliceD,sub,minmaxD,eqvL,PD.eqv,clsP,cls,clsR,isCl,isW,apartRW,offB,apartWW,clash,insOk,finish,evRes,evRes1,mapO,D.cells,PD.cells,D.refsL,D.refs,D.toksL,D.toks,mkAgg,pures,fillD,fillE,appendD,srcD,D.elems?,D.asPD,Int.toNat_natCast,srcH,srcBH,eqD,D.asPDL,isMapC,ld_succ,ld_zero,st_succ,st_zero,oI,oS,oN,oP,oB,oL,oT,oF,oE,ldr0,ldr1,ldr2,ldr3,ldr4,ldr5,ldr6,str1',str3',ldS0,ldS1,ldS7,lenr,hlen,hlen2,h1,h1',h2',htk,hc,hw,hi,lr,hloc,D.ren,D.renL,below]
 all_goals rfl
end
end Go.Proofs.YtalgjkpkkdljaaaGreatDoor
namespace Go.Proofs.YtalgjkpkkdljaaaGreatDoor
open Go.Vs
theorem callD_new{g:Nat}{T:List D}(h:call pg g [] ⟨[],[]⟩=some (.val (.mapr 0),⟨[T],[]⟩))(hT:∀bi ti,D.renL bi ti T=some T)(bx:List (List D))(tk:List Nat):callD (call pg) g [] ⟨bx,tk⟩=some (.val (.mapr bx.length),⟨bx++[T],tk⟩):=by
 have hr:∀n,reach ⟨bx,tk⟩ n []=[]:=fun n=>by cases n<;>simp[reach,boxRefs]
 refine(callD_of [] [] (hr _) rfl rfl rfl rfl rfl h).trans ?_
 simp[back,firstN,mapO,Res.ren,D.ren,hT,putAll]
theorem shapesC:call pg 46 [] ⟨[],[]⟩=some (.val (.mapr 0),⟨[tabS],[]⟩):=call_of_evF 10 (isTab_eq (by kernel_rfl))
def rd0(s:List UInt8):Rd:=⟨toSl (Lx.lex s).1,s.length,[.p .nils,.p .nils,.p .nils,.p .nils,.p .nils],[]⟩
theorem open_ok{s:List UInt8}(hs:s.length≤140737488355328)(he:(Lx.lex s).2.1=0):call pg 41 [.p (.str s)] ⟨[],[]⟩=some (.val (.tup [.box 3 0,.p .nils]),⟨[tabB,tabU,tabS,rM (rd0 s) 0 0 0 1 2],[]⟩):=by
 have hl:=Lx.lex_eq s hs
 have n1:=callD_new ops0 renB
 have n2:=callD_new pre0 renU
 have n3:=callD_new shapesC renS
 have hts:(Lx.lex s).toks= .slice 3 ((Lx.lex s).1.map Tok.pd):=by simp[Lx.Lexed.toks,he]
 refine call_body (fc:=fc41) rfl rfl rfl rfl ?_
 simp only[Lx.Lexed.d,hts,he,rM,rd0,slP_toSl] at hl⊢
 simp[fc41,evKC,evK,put,Env.get,Env.keep,entry,Opd.ev,splice,binD,lenD,finish,evRes,evRes1,mapO,D.cells,D.one,PD.one,mkAgg,pures,fillD,hl,n1,n2,n3]
theorem open_bad{s:List UInt8}(hs:s.length≤140737488355328)(he:(Lx.lex s).2.1≠0):call pg 41 [.p (.str s)] ⟨[],[]⟩=some (.val (.tup [.p .nilp,.fsl 34 2 [dg (Lx.lex s).2.1 (Lx.lex s).2.2]]),⟨[],[]⟩):=by
 have hl:=Lx.lex_eq s hs
 have he':(((Lx.lex s).2.1 :Int)!=0)=true:=by simp[bne];exact he
 refine call_body (fc:=fc41) rfl rfl rfl rfl ?_
 simp only[Lx.Lexed.d,dg] at hl⊢
 simp[fc41,evKC,evK,put,Env.get,Env.keep,entry,Opd.ev,splice,binD,finish,evRes,evRes1,mapO,D.cells,D.one,PD.one,PD.cells,mkAgg,pures,fillD,fillE,D.asPD,hl,he']
def zeroN:Nd:=.mk 0 [] 0 0 [] 0
def pf(s:List UInt8):Nd×PD:=
 if(Lx.lex s).2.1≠0 then(zeroN,.slice 2 [dg (Lx.lex s).2.1 (Lx.lex s).2.2])
 else match formulaP (rdF s []) with
  | .ok n _=>(n,.nils)
  | .bad e p _=>(zeroN,.slice 2 [dg e p])
theorem lex_small{s:List UInt8}(he:(Lx.lex s).2.1=0):s.length≤20000:=by
 rcases Nat.lt_or_ge 20000 s.length with h |h
 ·unfold Lx.lex at he
  rw[if_pos h] at he
  cases he
 ·exact h
theorem open_at{s:List UInt8}(hs:s.length≤140737488355328)(he:(Lx.lex s).2.1=0)(b0:List D):callD (call pg) 41 [.p (.str s)] ⟨[b0],[]⟩=some (.val (.tup [.box 4 0,.p .nils]),⟨[b0,tabB,tabU,tabS,rM (rd0 s) 0 0 1 2 3],[]⟩):=by
 refine(callD_of (as1:=[.p (.str s)]) [] [] rfl rfl rfl rfl rfl rfl (open_ok hs he)).trans ?_
 have k1:D.renL (fun i=>some (1+i)) (fun _=>none) (rM (rd0 s) 0 0 0 1 2)=some (rM (rd0 s) 0 0 1 2 3):=ren_rM (c:=rd0 s) (bi:=fun i=>some (1+i)) (ti:=fun _=>none) rfl rfl rfl rfl 0 0
 simp[back,firstN,mapO,Res.ren,D.ren,D.renL,renB,renU,renS,putAll,k1]
theorem open_bad_at{s:List UInt8}(hs:s.length≤140737488355328)(he:(Lx.lex s).2.1≠0)(b0:List D):callD (call pg) 41 [.p (.str s)] ⟨[b0],[]⟩=some (.val (.tup [.p .nilp,.fsl 34 2 [dg (Lx.lex s).2.1 (Lx.lex s).2.2]]),⟨[b0],[]⟩):=by
 refine(callD_of (as1:=[.p (.str s)]) [] [] rfl rfl rfl rfl rfl rfl (open_bad hs he)).trans ?_
 simp[back,firstN,mapO,Res.ren,D.ren,D.renL,putAll]
theorem tokb_rd{s:List UInt8}{env:Env}(he:env.get 10= .box 4 0)(b0 b5:List D):tokbD 10 7 34 2 ⟨env,⟨[b0,tabB,tabU,tabS,rM (rd0 s) 0 0 1 2 3,b5],[]⟩⟩=some ⟨env,⟨[b0,tabB,tabU,tabS,rM (rdF s []) 0 0 1 2 3,b5],[0]⟩⟩:=by
 simp[tokbD,he,rM,rd0,rdF,isMapC,tokD]
def HPF(s:List UInt8)(f:List PD)(a:Nat)(z:List PD):Hp:=⟨[zN0.map .p,tabB,tabU,tabS,rM (rdF s f) a 0 1 2 3,[.box 4 0],z.map .p],[f.length]⟩
theorem call43{s:List UInt8}{f:List PD}{a:Nat}{z:List PD}{ex:List (List D)}{b:Bool}(h:call pg 43 [.box 0 0,.fn 47 [] [.box 1 0,.box 2 0]] (H43 (rdF s []) 0 0 zN0 [])=some (.val (.p (.bool b)),H43 (rdF s f) a 0 z ex)):
    callD (call pg) 43 [.box 4 0,.fn 47 [] [.box 5 0,.box 6 0]] (HPF s [] 0 zN0)=some (.val (.p (.bool b)),HPF s f a z):=by
 have q0:ins [] (D.refsL [.box 4 0,.fn 47 [] [.box 5 0,.box 6 0]])=[4,5,6]:=rfl
 have q1:reach (HPF s [] 0 zN0) (HPF s [] 0 zN0).bx.length (ins [] (D.refsL [.box 4 0,.fn 47 [] [.box 5 0,.box 6 0]]))=[4,5,6,1,2,3]:=by
  rw[q0]
  simp[reach,boxRefs,ins,HPF,refs_rM (rdF_ok s []),refsB,refsU,refsS,D.refsL,D.refs]
 have q5:mapO (fun i=>match(HPF s [] 0 zN0).bx[i]? with |some cs=>D.renL (idx [4,5,6,1,2,3]) (idx [0]) cs |none=>none) [4,5,6,1,2,3]=some (H43 (rdF s []) 0 0 zN0 []).bx:=by
  have k1:=ren_rdF s [] 0 0 (m1:=1) (m2:=2) (m3:=3) (n1:=3) (n2:=4) (n3:=5) (bi:=idx [4,5,6,1,2,3]) (ti:=idx [0]) rfl rfl rfl rfl
  have k0:idx [4,5,6,1,2,3] 4=some 0:=rfl
  simp[mapO,H43,HPF,renB,renU,renS,k1,D.renL,D.ren,k0]
 refine(callD_of (as1:=[.box 0 0,.fn 47 [] [.box 1 0,.box 2 0]]) (tk:=[0]) [4,5,6,1,2,3] [0] q1 ?_ rfl rfl q5 rfl h).trans ?_
 ·simp[boxToks,ins,HPF,toks_rdF,toksB,toksU,toksS,D.toksL,D.toks]
 ·have k2:=ren_rdF s f a 0 (m1:=3) (m2:=4) (m3:=5) (n1:=1) (n2:=2) (n3:=3) (bi:=fun i=>[4,5,6,1,2,3][i]?) (ti:=fun t=>[0][t]?) rfl rfl rfl rfl
  simp[back,firstN,mapO,H43,HPF,renB,renU,renS,k2,D.renL,D.ren,Res.ren,putAll,tk_rdF]
theorem zero_cells:zeroN.pd= .agg zN0:=rfl
theorem seal0{r r':Res}{H:Hp}(hr:(r.frz 0 H).ren (below 0) some=some r'):sealF 0 (r,H)=(r',⟨[],H.tk⟩):=by
 unfold sealF
 simp only[List.take_zero,mapO,hr]
 rw[if_pos (Nat.zero_le _)]
section
variable {G : Nat → Option (List PD)} {bx : List (List D)} {tk : List Nat} {a o m1 m2 m3 i n : Nat} {x : PD} {s : List UInt8} {f : List PD}
theorem oNp:PD.nilp.one=true:=rfl
theorem st_ptr:storeD ⟨[.p x]::bx,tk⟩ 1 (.box 0 0) (.box i n)=some ⟨[.box i n]::bx,tk⟩:=by
 simp[storeD,isMapC,D.cells,D.one,splice]
theorem ldF7:loadD G ⟨rM (rdF s f) a o m1 m2 m3::bx,tk⟩ none (.box 0 7)=some (.tsl 0 34 2 f):=rfl
end
theorem pf_body(s:List UInt8)(hs:s.length≤140737488355328):∃d h,call pg 17 [.p (.str s)] ⟨[],[]⟩=some (.val d,h)∧d.ren (fun _=>none) (fun _=>none)=some (.tup [.p (pf s).1.pd,.p (pf s).2]):=by
 unfold pf
 by_cases he:(Lx.lex s).2.1=0
 ·rw[if_neg (fun q=>q he)]
  have h1:=open_at hs he (zN0.map .p)
  have h2:=tryF (lex_small he)
  cases r:formulaP (rdF s []) with
  |ok n a=>
   rw[r] at h2
   obtain⟨ex,h2⟩:=h2
   have h3:=call43 h2
   have hkn:=pone_kids n
   refine⟨.tup [.p n.pd,.p .nils],_,call_frz (fc:=fc17) rfl rfl rfl rfl (r:=(.val (.tup [.p n.pd,.p .nils]),⟨[n.cells.map .p,tabB,tabU,tabS,rM (rdF s []) a 0 1 2 3,[.box 4 0],n.cells.map .p],[0]⟩)) ?_ (seal0 rfl),rfl⟩
   simp only[HPF,zN0,List.map_cons,List.map_nil,pd_cells n,Nd.cells,List.length_nil] at h1 h3⊢
   simp[fc17,evKC,evK,put,Env.get,Env.keep,entry,Opd.ev,splice,cutAt,binD,unD,sub,finish,evRes,evRes1,mapO,D.cells,mkAgg,pures,ld_succ,ld_zero,st_succ,st_zero,oP,h1,h3,tokb_rd,ld_ptr,hkn,oNp,st_ptr,lenD_nils]
  |bad e p a=>
   rw[r] at h2
   obtain⟨z,ex,hz,h2⟩:=h2
   have h3:=call43 h2
   obtain⟨x1,x2,x3,x4,x5,rfl⟩:=hz
   refine⟨.tup [.p zeroN.pd,.tsl 0 34 2 [dg e p]],_,call_frz (fc:=fc17) rfl rfl rfl rfl (r:=(.val (.tup [.p zeroN.pd,.tsl 0 34 2 [dg e p]]),⟨[zN0.map .p,tabB,tabU,tabS,rM (rdF s [dg e p]) a 0 1 2 3,[.box 4 0],[.p x1,.p x2,.p x3,.p x4,.p x5]],[1]⟩)) ?_ (seal0 rfl),rfl⟩
   simp only[HPF,zero_cells,zN0,List.map_cons,List.map_nil,List.length_nil,List.length_cons] at h1 h3⊢
   simp[fc17,evKC,evK,put,Env.get,Env.keep,entry,Opd.ev,splice,cutAt,binD,unD,sub,clsP,cls,clsR,isCl,isW,apartRW,offB,apartWW,clash,insOk,finish,evRes,evRes1,mapO,D.cells,mkAgg,pures,fillD,ld_succ,ld_zero,st_succ,st_zero,oP,h1,h3,tokb_rd,ld_ptr,ldF7,oNp,st_ptr,lenD_nils]
 ·rw[if_pos he]
  have h1:=open_bad_at hs he (zN0.map .p)
  refine⟨.tup [.p zeroN.pd,.p (.slice 2 [dg (Lx.lex s).2.1 (Lx.lex s).2.2])],_,call_frz (fc:=fc17) rfl rfl rfl rfl (r:=(.val (.tup [.p zeroN.pd,.fsl 34 2 [dg (Lx.lex s).2.1 (Lx.lex s).2.2]]),⟨[zN0.map .p,[.p .nilp]],[]⟩)) ?_ (seal0 rfl),rfl⟩
  simp only[zero_cells,zN0,List.map_cons,List.map_nil] at h1⊢
  simp[fc17,evKC,evK,put,Env.get,Env.keep,entry,Opd.ev,splice,cutAt,binD,sub,finish,evRes,evRes1,mapO,D.cells,mkAgg,pures,fillD,ld_zero,st_succ,st_zero,oP,h1,oNp,st_one oNp,lenD_fsl,tokbD]
theorem pf_eq(s:List UInt8)(hs:s.length≤140737488355328)(H:Hp):callD (call pg) 17 [.p (.str s)] H=some (.val (.tup [.p (pf s).1.pd,.p (pf s).2]),H):=by
 obtain⟨d,h,h1,h2⟩:=pf_body s hs
 exact callD_pure h1 rfl rfl rfl h2
end Go.Proofs.YtalgjkpkkdljaaaGreatDoor
namespace Go.Proofs.YtalgjkpkkdljaaaGreatDoor
open Go.Vs
structure Sp.Wf (q:Sp):Prop where
 S:q.S.length≤4
 F:q.F.length≤6
 P:q.P.length≤8
 A:q.A.length≤16
 pv:∀x∈q.P,validN x.2.2=true∧knd x.2.2.op=3
 av:∀x∈q.A,validN x.2=true∧knd x.2.op=3
theorem Sp.Wf.few{q:Sp}(h:q.Wf)(hf:q.f.length≤1000):q.Few:=⟨hf,by have:=h.S;omega,by have:=h.F;omega,by have:=h.P;omega,by have:=h.A;omega⟩
theorem Sp.Wf.flt{q:Sp}(h:q.Wf)(e:Int)(p:Nat):(q.flt e p).Wf:=⟨h.S,h.F,h.P,h.A,h.pv,h.av⟩
theorem decl_wf{c:Rd}(hc:c.Sz){q:Sp}(h:q.Wf){a:Nat}{q':Sp}{a':Nat}(hw:declP c q a= .ok q' a'):q'.Wf∧q'.f=q.f:=by
 unfold declP at hw
 split at hw
 ·unfold sortDeclP at hw
  split at hw
  ·cases hw
  ·rename_i hl
   obtain⟨t,b,h1,hw⟩:=bind_inv hw
   obtain⟨u,b2,h2,hw⟩:=bind_inv hw
   cases hw
   exact⟨⟨by simp;omega,h.F,h.P,h.A,h.pv,h.av⟩,rfl⟩
 ·split at hw
  ·unfold fieldDeclP at hw
   split at hw
   ·cases hw
   ·rename_i hl
    obtain⟨u,b,h1,hw⟩:=bind_inv hw
    obtain⟨t,b2,h2,hw⟩:=bind_inv hw
    obtain⟨u3,b3,h3,hw⟩:=bind_inv hw
    obtain⟨i,b4,h4,hw⟩:=bind_inv hw
    obtain⟨l,b5,h5,hw⟩:=bind_inv hw
    obtain⟨u6,b6,h6,hw⟩:=bind_inv hw
    cases hw
    exact⟨⟨h.S,by simp;omega,h.P,h.A,h.pv,h.av⟩,rfl⟩
  ·split at hw
   ·unfold predDeclP at hw
    split at hw
    ·cases hw
    ·rename_i hl
     obtain⟨t,b,h1,hw⟩:=bind_inv hw
     obtain⟨u,b2,h2,hw⟩:=bind_inv hw
     obtain⟨l,b3,h3,hw⟩:=bind_inv hw
     obtain⟨n,b4,h4,hw⟩:=bind_inv hw
     obtain⟨_,_,w3,w4⟩:=block_lt hc h4
     cases hw
     refine⟨⟨h.S,h.F,by simp;omega,h.A,fun x hx=>?_,h.av⟩,rfl⟩
     rcases List.mem_append.1 hx with r |r
     ·exact h.pv x r
     ·rw[List.mem_singleton.1 r];exact⟨w3,w4⟩
   ·split at hw
    ·unfold factDeclP at hw
     split at hw
     ·cases hw
     ·rename_i hl
      obtain⟨t,b,h1,hw⟩:=bind_inv hw
      obtain⟨n,b2,h2,hw⟩:=bind_inv hw
      obtain⟨_,_,w3,w4⟩:=block_lt hc h2
      cases hw
      refine⟨⟨h.S,h.F,h.P,by simp;omega,h.pv,fun x hx=>?_⟩,rfl⟩
      rcases List.mem_append.1 hx with r |r
      ·exact h.av x r
      ·rw[List.mem_singleton.1 r];exact⟨w3,w4⟩
    ·exact absurd hw wrongP_bad
theorem po_rdS(s:List UInt8)(q:Sp):Po (rdS s q):=by
 intro i
 rcases Nat.lt_or_ge i (rdS s q).ts.length with w |w
 ·rw[tok_in w]
  have hm:(rdS s q).ts[i]∈(Lx.lex s).1:=by rw[←show(rdS s q).ts=(Lx.lex s).1 from rdX_ts ..];exact List.getElem_mem w
  obtain⟨j,hj,e1,_⟩:=Lx.lex_mem hm
  rw[e1,Lx.tok_at]
  show j≤s.length
  omega
 ·rw[tok_out w];exact Nat.le_refl _
theorem ps_loop{s:List UInt8}(hs:s.length≤20000):∀(n a:Nat) (q:Sp) (e0:Env),e0.keep [2,4,6]=psE→q.Wf→q.f.length≤20→a≤(rdS s q).ts.length→(rdS s q).ts.length-a<n→
    ∃env a',loopK (call pg) pg.G [2,4,6] fc14_b0 ⟨e0,HP s q a []⟩=some (.exit 0,⟨env,HP s (specL s n q a) a' []⟩)∧env.get 2= .box 0 0∧env.get 4= .box 4 0:=by
 intro n
 induction n with
 |zero=>intro a q e0 _ _ _ _ h;omega
 |succ n ih=>
  intro a q e0 he hw hf ha hn
  have h:(rdS s q).Sz:=rdX_sz s _ _ _ _ _ hs
  have hfew:=hw.few (by omega)
  unfold specL
  by_cases hc:a<(rdS s q).ts.length∧q.f.length<20
  ·rw[if_pos hc]
   cases hd:declP (rdS s q) q a with
   |ok q' a'=>
    dsimp only
    obtain⟨w1,w2⟩:=decl_lt h hc.1 hd
    obtain⟨w3,w4⟩:=decl_wf h hw hd
    have hts:(rdS s q').ts=(rdS s q).ts:=rfl
    obtain⟨env,a2,e,g2,g4⟩:=ih a' q' (psE++[(40,.p (.bool false))]) rfl w3 (by rw[w4];exact hf) (by rw[hts];exact w2) (by rw[hts];omega)
    refine⟨env,a2,?_,g2,g4⟩
    rw[←e]
    refine loopK_norm ?_
    rw[he]
    exact ps_ok hs q hfew a hc.1 hc.2 hd
   |bad er p a'=>
    dsimp only
    have hb:=decl_bo h (po_rdS s q) hc.1 hd
    by_cases h21:er=21
    ·rw[if_pos h21]
     subst h21
     obtain⟨env,e,g2,g4⟩:=ps_stop hs q hfew a hc.1 hc.2 hd
     refine⟨env,a',loopK_out ?_ (by simp),g2,g4⟩
     rw[he];exact e
    ·rw[if_neg h21]
     have hk:=skipP_le (c:=rdS s q) ((rdS s q).ts.length+1) a' hb.len
     have hlt:a<skipP (rdS s q) ((rdS s q).ts.length+1) a':=by
      have hle:=hb.le
      rcases Nat.lt_or_ge a a' with w |w
      ·omega
      ·have :a'=a:=by omega
       subst this
       unfold skipP
       rw[if_pos hc.1]
       split
       ·omega
       ·have:=skipP_le (c:=rdS s q) (rdS s q).ts.length (a'+1) (by omega);omega
     have hts:(rdS s (q.flt er p)).ts=(rdS s q).ts:=rfl
     obtain⟨env,a2,e,g2,g4⟩:=ih (skipP (rdS s q) ((rdS s q).ts.length+1) a') (q.flt er p) psE rfl (hw.flt er p) (by simp[Sp.flt];omega) (by rw[hts];exact hk.2) (by rw[hts];omega)
     refine⟨env,a2,?_,g2,g4⟩
     rw[←e]
     refine loopK_norm ?_
     rw[he]
     exact ps_bad hs q hfew a hc.1 hc.2 hd hb.len h21
  ·rw[if_neg hc]
   obtain⟨env,e,g2,g4⟩:=ps_end hs q a hc
   refine⟨env,a,loopK_out ?_ (by simp),g2,g4⟩
   rw[he];exact e
def q0:Sp:=⟨[],[],[],[],[]⟩
theorem wf_q0:q0.Wf:=⟨by decide,by decide,by decide,by decide,fun x hx=>(List.not_mem_nil hx).elim,fun x hx=>(List.not_mem_nil hx).elim⟩
def parseS(s:List UInt8):Sp:=specL s ((Lx.lex s).1.length+1) q0 0
def Sp.d(q:Sp):D:=.agg [.p (.slice 2 (q.S.map sPD)),.p (.slice 3 (q.F.map fPD)),.p (.slice 7 (q.P.map pPD)),.p (.slice 6 (q.A.map aPD))]
def z4:D:=.p (.agg [.nils,.nils,.nils,.nils])
def parseD(s:List UInt8):D:=
 if(Lx.lex s).2.1≠0 then .tup [z4,.p (.slice 2 [dg (Lx.lex s).2.1 (Lx.lex s).2.2])]
 else if(parseS s).f=[] then .tup [(parseS s).d,.p .nils] else .tup [z4,.p (.slice 2 (parseS s).f)]
def rdK(s:List UInt8)(X:List D)(tk:List Nat):Rd:=⟨toSl (Lx.lex s).1,s.length,X,tk⟩
section
variable {s : List UInt8} {env : Env} (he : env.get 4 = .box 4 0) (b0 : List D)
include he
theorem tb0:tokbD 4 7 34 2 ⟨env,⟨[b0,tabB,tabU,tabS,rM (rd0 s) 0 0 1 2 3],[]⟩⟩=some ⟨env,⟨[b0,tabB,tabU,tabS,rM (rdK s [.tsl 0 34 2 [],.p .nils,.p .nils,.p .nils,.p .nils] [0]) 0 0 1 2 3],[0]⟩⟩:=by
 simp[tokbD,he,rM,rd0,rdK,isMapC,tokD]
theorem tb1:tokbD 4 8 81 2 ⟨env,⟨[b0,tabB,tabU,tabS,rM (rdK s [.tsl 0 34 2 [],.p .nils,.p .nils,.p .nils,.p .nils] [0]) 0 0 1 2 3],[0]⟩⟩=some ⟨env,⟨[b0,tabB,tabU,tabS,rM (rdK s [.tsl 0 34 2 [],.tsl 1 81 2 [],.p .nils,.p .nils,.p .nils] [0,0]) 0 0 1 2 3],[0,0]⟩⟩:=by
 simp[tokbD,he,rM,rdK,isMapC,tokD]
theorem tb2:tokbD 4 9 70 3 ⟨env,⟨[b0,tabB,tabU,tabS,rM (rdK s [.tsl 0 34 2 [],.tsl 1 81 2 [],.p .nils,.p .nils,.p .nils] [0,0]) 0 0 1 2 3],[0,0]⟩⟩=some ⟨env,⟨[b0,tabB,tabU,tabS,rM (rdK s [.tsl 0 34 2 [],.tsl 1 81 2 [],.tsl 2 70 3 [],.p .nils,.p .nils] [0,0,0]) 0 0 1 2 3],[0,0,0]⟩⟩:=by
 simp[tokbD,he,rM,rdK,isMapC,tokD]
theorem tb3:tokbD 4 10 41 7 ⟨env,⟨[b0,tabB,tabU,tabS,rM (rdK s [.tsl 0 34 2 [],.tsl 1 81 2 [],.tsl 2 70 3 [],.p .nils,.p .nils] [0,0,0]) 0 0 1 2 3],[0,0,0]⟩⟩=some ⟨env,⟨[b0,tabB,tabU,tabS,rM (rdK s [.tsl 0 34 2 [],.tsl 1 81 2 [],.tsl 2 70 3 [],.tsl 3 41 7 [],.p .nils] [0,0,0,0]) 0 0 1 2 3],[0,0,0,0]⟩⟩:=by
 simp[tokbD,he,rM,rdK,isMapC,tokD]
theorem tb4:tokbD 4 11 44 6 ⟨env,⟨[b0,tabB,tabU,tabS,rM (rdK s [.tsl 0 34 2 [],.tsl 1 81 2 [],.tsl 2 70 3 [],.tsl 3 41 7 [],.p .nils] [0,0,0,0]) 0 0 1 2 3],[0,0,0,0]⟩⟩=some ⟨env,⟨[b0,tabB,tabU,tabS,rM (rdS s q0) 0 0 1 2 3],[0,0,0,0,0]⟩⟩:=by
 simp[tokbD,he,rM,rdK,rdS,rdX,X5,q0,isMapC,tokD]
end
theorem pa_body(s:List UInt8)(hs:s.length≤140737488355328):∃d h,call pg 14 [.p (.str s)] ⟨[],[]⟩=some (.val d,h)∧d.ren (fun _=>none) (fun _=>none)=some (parseD s):=by
 unfold parseD
 by_cases he:(Lx.lex s).2.1=0
 ·rw[if_neg (fun q=>q he)]
  have hs2:=lex_small he
  have h1:=open_at hs he [.p .nils,.p .nils,.p .nils,.p .nils]
  have hts:(rdS s q0).ts.length=(Lx.lex s).1.length:=by rw[show(rdS s q0).ts=(Lx.lex s).1 from rdX_ts ..]
  obtain⟨env,a',hL,g2,g4⟩:=ps_loop hs2 ((Lx.lex s).1.length+1) 0 q0 psE rfl wf_q0 (by decide) (Nat.zero_le _) (by omega)
  rw[show specL s ((Lx.lex s).1.length+1) q0 0=parseS s from rfl] at hL
  have hlen:lenD 1 (.tsl 0 34 2 (parseS s).f)=some (parseS s).f.length:=lenD_tsl ..
  have htk:(rdS s q0).tk=[0,0,0,0,0]:=rfl
  generalize parseS s=q at *
  by_cases hf:q.f=[]
  ·rw[if_pos hf]
   have hl0:q.f.length=0:=by rw[hf];rfl
   refine⟨.tup [.agg [.tsl 1 81 2 (q.S.map sPD),.tsl 2 70 3 (q.F.map fPD),.tsl 3 41 7 (q.P.map pPD),.tsl 4 44 6 (q.A.map aPD)],.p .nils],_,call_frz (fc:=fc14) rfl rfl rfl rfl (r:=(.val (.tup [.agg [.tsl 1 81 2 (q.S.map sPD),.tsl 2 70 3 (q.F.map fPD),.tsl 3 41 7 (q.P.map pPD),.tsl 4 44 6 (q.A.map aPD)],.p .nils]),⟨[[.tsl 1 81 2 (q.S.map sPD),.tsl 2 70 3 (q.F.map fPD),.tsl 3 41 7 (q.P.map pPD),.tsl 4 44 6 (q.A.map aPD)],tabB,tabU,tabS,rM (rdS s q) a' 0 1 2 3],(rdS s q).tk⟩)) ?_ (seal0 rfl),rfl⟩
   simp only[HP,psE,htk] at h1 hL⊢
   simp[fc14,evKC,evK,put,Env.keep,entry,Opd.ev,splice,cutAt,binD,sub,finish,evRes,evRes1,mapO,D.cells,mkAgg,pures,ld_succ,ld_zero,st_zero,h1,tb0,tb1,tb2,tb3,tb4,hL,g2,g4,ldS7,ldS8,hlen,hl0,lenD_nils,Env.get]
  ·rw[if_neg hf]
   have hl0:0<q.f.length:=List.length_pos_iff.2 hf
   refine⟨.tup [z4,.tsl 0 34 2 q.f],_,call_frz (fc:=fc14) rfl rfl rfl rfl (r:=(.val (.tup [z4,.tsl 0 34 2 q.f]),⟨[[.p .nils,.p .nils,.p .nils,.p .nils],tabB,tabU,tabS,rM (rdS s q) a' 0 1 2 3],(rdS s q).tk⟩)) ?_ (seal0 rfl),rfl⟩
   simp only[HP,psE,htk,z4] at h1 hL⊢
   simp[fc14,evKC,evK,put,Env.keep,entry,Opd.ev,splice,cutAt,binD,sub,clsP,cls,clsR,isCl,isW,apartRW,offB,apartWW,clash,insOk,finish,evRes,evRes1,mapO,D.cells,mkAgg,pures,fillD,ld_succ,ld_zero,st_zero,oP,h1,tb0,tb1,tb2,tb3,tb4,hL,g2,g4,ldS7,hlen,hl0,lenD_nils,Env.get]
 ·rw[if_pos he]
  have h1:=open_bad_at hs he [.p .nils,.p .nils,.p .nils,.p .nils]
  refine⟨.tup [z4,.p (.slice 2 [dg (Lx.lex s).2.1 (Lx.lex s).2.2])],_,call_frz (fc:=fc14) rfl rfl rfl rfl (r:=(.val (.tup [z4,.fsl 34 2 [dg (Lx.lex s).2.1 (Lx.lex s).2.2]]),⟨[[.p .nils,.p .nils,.p .nils,.p .nils]],[]⟩)) ?_ (seal0 rfl),rfl⟩
  simp only[z4] at h1⊢
  simp[fc14,evKC,evK,put,Env.get,Env.keep,entry,Opd.ev,splice,cutAt,binD,sub,finish,evRes,evRes1,mapO,D.cells,mkAgg,pures,fillD,ld_zero,st_zero,oP,h1,lenD_fsl,tokbD]
theorem pa_eq(s:List UInt8)(hs:s.length≤140737488355328)(H:Hp):callD (call pg) 14 [.p (.str s)] H=some (.val (parseD s),H):=by
 obtain⟨d,h,h1,h2⟩:=pa_body s hs
 exact callD_pure h1 rfl rfl rfl h2
end Go.Proofs.YtalgjkpkkdljaaaGreatDoor
namespace Go.Proofs.YtalgjkpkkdljaaaGreatDoor
open Go.Vs
abbrev KT:=Int×List UInt8
structure BE where
 tok:KT
 lv:Nat
 a:Nat
 b:Nat
 kd:Int
def bopT:List (Int×BE):=[(6,⟨(3,[43]),8,8,9,1⟩),(7,⟨(3,[38]),10,10,11,1⟩),(8,⟨(3,[45]),8,8,9,1⟩),(9,⟨(3,[46]),12,12,13,1⟩),(10,⟨(3,[45,62]),11,11,12,1⟩),(14,⟨(3,[43,43]),9,9,10,1⟩),(22,⟨(3,[43]),8,8,9,2⟩),(23,⟨(3,[45]),8,8,9,2⟩),(32,⟨(1,[105,110]),7,8,8,1⟩),(33,⟨(3,[61]),7,8,8,1⟩),(38,⟨(3,[61]),7,8,8,2⟩),(39,⟨(3,[60]),7,8,8,2⟩),(41,⟨(3,[38,38]),4,4,5,3⟩),(42,⟨(3,[124,124]),3,3,4,3⟩),(43,⟨(3,[61,62]),2,3,2,3⟩),(44,⟨(3,[60,61,62]),1,1,2,3⟩),(51,⟨(1,[117,110,116,105,108]),5,6,5,3⟩)]
structure PE where
 tok:KT
 lv:Nat
 a:Nat
 kd:Int
def popT:List (Int×PE):=[(11,⟨(3,[126]),13,13,1⟩),(12,⟨(3,[94]),13,13,1⟩),(13,⟨(3,[42]),13,13,1⟩),(21,⟨(3,[35]),12,12,1⟩),(34,⟨(1,[115,111,109,101]),7,8,1⟩),(35,⟨(1,[110,111]),7,8,1⟩),(36,⟨(1,[111,110,101]),7,8,1⟩),(37,⟨(1,[108,111,110,101]),7,8,1⟩),(40,⟨(1,[110,111,116]),6,6,3⟩),(48,⟨(1,[97,108,119,97,121,115]),6,6,3⟩),(49,⟨(1,[101,118,101,110,116,117,97,108,108,121]),6,6,3⟩),(50,⟨(1,[97,102,116,101,114]),6,6,3⟩)]
def lookO{α:Type}:List (Int×α)→Int→Option α
 |[],_=>none
 |e::t,k=>if e.1=k then some e.2 else lookO t k
def lvN(op:Int):Nat:=match lookO bopT op with
 |some e=>e.lv
 |none=>match lookO popT op with
  |some e=>e.lv
  |none=>if op=5 then 14 else 15
def rlN(op:Int):Nat:=match lookO bopT op with
 |some e=>e.b
 |none=>match lookO popT op with
  |some e=>e.a
  |none=>15
def ktAt(c:Rd)(i:Nat):KT:=((c.tok i).k,(c.tok i).t)
def At(c:Rd):Nat→List KT→Prop
 |_,[]=>True
 |i,x::l=>ktAt c i=x∧At c (i+1) l
def Stop(lev:Nat)(u:KT):Prop:=u.1=0∨lookT binT u.2=none∨∃b,lookT binT u.2=some b∧b.lv<lev
theorem Stop.mono{s s':Nat}{u:KT}(h:Stop s u)(hs:s≤s'):Stop s' u:=by
 rcases h with h |h |⟨b,h,hb⟩
 ·exact .inl h
 ·exact .inr (.inl h)
 ·exact .inr (.inr ⟨b,h,by omega⟩)
def Good(u:KT):Prop:=u.2≠[39]∧u.2≠[91]∧u.2≠[58]
mutual
def Nd.er:Nd→Nd
 | .mk op nm n _ ks _=>.mk op nm n 0 (Nd.erL ks) 0
def Nd.erL:List Nd→List Nd
 |[]=>[]
 |k::ks=>k.er::Nd.erL ks
end
theorem erL_map:∀ks:List Nd,Nd.erL ks=ks.map Nd.er
 |[]=>rfl
 |k::ks=>by simp[Nd.erL,erL_map ks]
theorem er_eq(a:Nd):a.er= .mk a.op a.nm a.n 0 (a.ks.map Nd.er) 0:=by
 cases a;simp only[Nd.er,erL_map];rfl
theorem er_iff{a b:Nd}:a.er=b.er↔a.op=b.op∧a.nm=b.nm∧a.n=b.n∧a.ks.map Nd.er=b.ks.map Nd.er:=by
 rw[er_eq a,er_eq b,Nd.mk.injEq]
 simp
theorem er_op{a b:Nd}(h:a.er=b.er):a.op=b.op:=(er_iff.1 h).1
theorem fitsL_er:∀{ks ks':List Nd} {w:List UInt8},ks.map Nd.er=ks'.map Nd.er→fitsL ks w=fitsL ks' w
 |[],[],w,_=>by cases w<;>rfl
 |k::ks,k'::ks',w,h=>by
  simp only[List.map_cons,List.cons.injEq] at h
  cases w with
  |nil=>rfl
  |cons c w=>simp only[fitsL,er_op h.1,fitsL_er h.2]
 |[],_::_,_,h=>by simp at h
 |_::_,[],_,h=>by simp at h
theorem fits_er{op:Int}{ks ks':List Nd}(h:ks.map Nd.er=ks'.map Nd.er):fitsB op ks=fitsB op ks':=by
 have hl:ks.length=ks'.length:=by have:=congrArg List.length h;simpa using this
 unfold fitsB
 rw[hl]
 cases wantS op ks'.length with
 |none=>rfl
 |some w=>dsimp only;rw[fitsL_er h]
def wf:Nat→Nd→Prop
 | 0,_=>False
 |h+1,a=>ownN a=true∧fitsB a.op a.ks=true∧∀x∈a.ks,wf h x
def lpT:KT:=(3,[40])
def rpT:KT:=(3,[41])
def OpR(P:Bool→List KT→Prop)(op:Int)(need:Nat)(fin:Bool)(l:List KT):Prop:=
 (need≤lvN op∧(fin=true∨(op≠45∧op≠46))∧P fin l)∨∃m,l=lpT::(m++[rpT])∧P true m
def commas:List (List KT)→List KT
 |[]=>[]
 |[x]=>x
 |x::y::r=>x++(3,[44])::commas (y::r)
def bndR(K:Nd→Bool→List KT→Prop)(a:Nd)(l:List KT):Prop:=
 ∃x y lx ly,a.ks=[x,y]∧OpR (K x) x.op 8 true lx∧OpR (K y) y.op 1 true ly∧l=(1,a.nm)::(3,[58])::(lx++(3,[124])::ly)
def constW(op:Int):Option (List UInt8):=if op=3 then some [117,110,105,118] else if op=4 then some [105,100,101,110] else if op=30 then some [116,114,117,101] else if op=31 then some [102,97,108,115,101] else none
def PtB(K:Nd→Bool→List KT→Prop)(a:Nd)(fin:Bool)(l:List KT):Prop:=
 match lookO bopT a.op with
 |some e=>∃x y lx ly,a.ks=[x,y]∧OpR (K x) x.op e.a false lx∧OpR (K y) y.op e.b fin ly∧l=lx++e.tok::ly
 |none=>match lookO popT a.op with
  |some e=>∃x lx,a.ks=[x]∧OpR (K x) x.op e.a fin lx∧l=e.tok::lx
  |none=>
   (a.op=1∧a.ks=[]∧l=[(1,a.nm)])∨
   (a.op=2∧a.ks=[]∧((a.n=1∧l=[(1,[110,111,110,101])])∨l=[(1,[110,111,110,101]),(3,[91]),(2,Lib.itoa a.n),(3,[93])]))∨
   (a.op=20∧a.ks=[]∧((0≤a.n∧l=[(2,Lib.itoa a.n)])∨(a.n<0∧l=[(3,[45]),(2,Lib.itoa (-a.n))])))∨
   (a.op=5∧∃x lx,a.ks=[x]∧OpR (K x) x.op 14 false lx∧l=lx++[(3,[39])])∨
   (a.op=45∧∃m,bndR K a m∧l=(1,[97,108,108])::m)∨
   (a.op=46∧∃m,bndR K a m∧l=(1,[115,111,109,101])::m)∨
   (a.op=15∧∃m,bndR K a m∧l=(3,[123])::(m++[(3,[125])]))∨
   (a.op=47∧∃ls:List (List KT),ls.length=a.ks.length∧(∀(i:Nat) x m,a.ks[i]? =some x→ls[i]? =some m→OpR (K x) x.op 8 true m)∧l=(1,a.nm)::(3,[91])::(commas ls++[(3,[93])]))∨
   (∃w,constW a.op=some w∧a.ks=[]∧l=[(1,w)])
def Pt:Nat→Nd→Bool→List KT→Prop
 | 0=>fun _ _ _=>False
 |h+1=>PtB (Pt h)
theorem k1(s:List UInt8):((1,s):KT).1≠0:=(by decide:(1 :Int)≠0)
theorem k2(s:List UInt8):((2,s):KT).1≠0:=(by decide:(2 :Int)≠0)
theorem k3(s:List UInt8):((3,s):KT).1≠0:=(by decide:(3 :Int)≠0)
def FP(u:KT):Prop:=u.2≠[97,108,108]∧u.2≠[115,111,109,101]∧lookT preT u.2=none
def PrimR(c:Rd)(prs:Nat→Nat→PR Nd)(i j:Nat)(a:Nd):Prop:=
 ∀F,j-i≤F→∃F' a',F≤F'+(j-i)∧a'.er=a.er∧((primaryP c prs (c.tok i) i).bind fun n b=>primesP c F n b)=primesP c F' a' j
def SpineR(c:Rd)(prs:Nat→Nat→PR Nd)(lev i j:Nat)(a:Nd):Prop:=
 ∀F,j-i≤F→∃F' a' cmp,F≤F'+(j-i)∧a'.er=a.er∧(8≤lvN a.op→cmp=false)∧((operandP c prs i).bind fun x b=>opsP c prs lev F false x b)=opsP c prs lev F' cmp a' j
def Reads(c:Rd)(h:Nat):Prop:=∀(a:Nd) (fin:Bool) (l:List KT),wf h a→Pt h a fin l→∀(i d:Nat),At c i l→2*h≤d+1→i+l.length≤c.ts.length→
 (14≤lvN a.op→a.op≠45→a.op≠46→(ktAt c (i+l.length)).2≠[91]→PrimR c (parseP c d) i (i+l.length) a∧FP (ktAt c i))∧
 (∀(lev:Nat) (u:KT),(fin=true∨(a.op≠45∧a.op≠46))→ktAt c (i+l.length)=u→Good u→(fin=true→Stop 1 u)→(fin=false→Stop (rlN a.op) u)→1≤lev→lev≤lvN a.op→SpineR c (parseP c d) lev i (i+l.length) a)
section
variable {c : Rd} {h : Nat} (IH : Reads c h)
include IH
end
end Go.Proofs.YtalgjkpkkdljaaaGreatDoor
namespace Go.Proofs.YtalgjkpkkdljaaaGreatDoor
open Go.Vs
def kc(k:Int):UInt8:=if k=1 then 101 else if k=2 then 105 else 102
section
variable {c : Rd} {h : Nat} (IH : Reads c h)
include IH
end
end Go.Proofs.YtalgjkpkkdljaaaGreatDoor
namespace Go.Proofs.YtalgjkpkkdljaaaGreatDoor
open Go.Vs
section
variable {c : Rd} {h : Nat} (IH : Reads c h)
include IH
end
end Go.Proofs.YtalgjkpkkdljaaaGreatDoor
namespace Go.Proofs.YtalgjkpkkdljaaaGreatDoor
open Go.Vs
section
variable {c : Rd} {h : Nat} (IH : Reads c h)
include IH
end
end Go.Proofs.YtalgjkpkkdljaaaGreatDoor
namespace Go.Proofs.YtalgjkpkkdljaaaGreatDoor
open Go.Vs
mutual
theorem meas_er:∀(a b:Nd) (d l:Int),a.er=b.er→meas a d l=meas b d l
 | .mk op nm n c ks pos,.mk op' nm' n' c' ks' pos',d,l,h=>by
  simp only[Nd.er,erL_map,Nd.mk.injEq] at h
  obtain⟨rfl,rfl,rfl,_,h4,_⟩:=h
  have hl:ks.length=ks'.length:=by have:=congrArg List.length h4;simpa using this
  simp only[meas,hl,fits_er h4,measL_er ks ks' d l 1 h4]
theorem measL_er:∀(ks ks':List Nd) (d l cnt:Int),ks.map Nd.er=ks'.map Nd.er→measL ks d l cnt=measL ks' d l cnt
 |[],[],d,l,cnt,_=>rfl
 |k::ks,k'::ks',d,l,cnt,h=>by
  simp only[List.map_cons,List.cons.injEq] at h
  simp only[measL,meas_er k k' _ _ h.1]
  cases meas k' (d+1) (l-cnt) with
  |none=>rfl
  |some c=>exact measL_er ks ks' d l (cnt+c) h.2
 |[],_::_,_,_,_,h=>by simp at h
 |_::_,[],_,_,_,h=>by simp at h
end
def paT(s:List UInt8):List UInt8:=40::(s++[41])
def signW(op:Int):List UInt8:=match lookO bopT op with
 |some e=>e.tok.2
 |none=>[]
def wordW(op:Int):List UInt8:=match lookO popT op with
 |some e=>e.tok.2
 |none=>(constW op).getD []
def joinS(sep:List UInt8):List (List UInt8)→List UInt8
 |[]=>[]
 |[x]=>x
 |x::y::r=>x++(sep++joinS sep (y::r))
def bndS(nm k0 k1:List UInt8):List UInt8:=nm++([58,32]++(paT k0++([32,124,32]++paT k1)))
def txOf(op:Int)(nm:List UInt8)(n:Int)(ks:List (List UInt8)):List UInt8:=
 if op=1 then nm
 else if op=2 then[110,111,110,101,91]++(Lib.itoa n++[93])
 else if op=20 then Lib.itoa n
 else if op=5 then paT (ks.getD 0 [])++[39]
 else if op=15 then[123]++(bndS nm (ks.getD 0 []) (ks.getD 1 [])++[125])
 else if op=45 then[97,108,108,32]++bndS nm (ks.getD 0 []) (ks.getD 1 [])
 else if op=46 then[115,111,109,101,32]++bndS nm (ks.getD 0 []) (ks.getD 1 [])
 else if op=47 then nm++([91]++(joinS [44,32] (ks.map paT)++[93]))
 else match ks with
  |[]=>wordW op
  |[k]=>wordW op++([32]++paT k)
  |k::k'::_=>paT k++([32]++(signW op++([32]++paT k')))
mutual
def tx:Nd→List UInt8
 | .mk op nm n _ ks _=>txOf op nm n (txL ks)
def txL:List Nd→List (List UInt8)
 |[]=>[]
 |k::ks=>tx k::txL ks
end
def T0.kt(t:Lx.T0):KT:=(t.k,t.t)
def LxOk(B:List UInt8→Prop)(s:List UInt8)(l:List KT):Prop:=∀n r,B r→∃T:List Lx.T0,T.map T0.kt=l∧Lx.lexR (l.length+n) (s++r)=(T++(Lx.lexR n r).1,(Lx.lexR n r).2)
theorem LxOk.seq{B1 B2:List UInt8→Prop}{s1 s2:List UInt8}{l1 l2:List KT}(h1:LxOk B1 s1 l1)(h2:LxOk B2 s2 l2)(hb:∀r,B2 r→B1 (s2++r)):LxOk B2 (s1++s2) (l1++l2):=by
 intro n r hr
 obtain⟨T2,e2,f2⟩:=h2 n r hr
 obtain⟨T1,e1,f1⟩:=h1 (l2.length+n) (s2++r) (hb r hr)
 refine⟨T1++T2,by rw[List.map_append,e1,e2],?_⟩
 rw[List.length_append,List.append_assoc,Nat.add_assoc,f1,f2,List.append_assoc]
def kR(op:Int):Nat:=if 1≤op∧op≤15 then 101 else if 20≤op∧op≤23 then 105 else if 30≤op∧op≤51 then 102 else 0
theorem kindR_call(op:Int)(H:Hp):callD (call pg) 16 [.p (.int .i64 op)] H=some (.val (.p (.int .u8 (kR op))),H):=by
 refine callD_any (d:=.p (.int .u8 (kR op))) ⟨⟨[],[]⟩,call_body (fc:=fc16) rfl rfl rfl rfl ?_⟩ rfl rfl rfl rfl H
 unfold kR
 by_cases a1:1≤op<;>by_cases a2:op≤15<;>by_cases a3:20≤op<;>by_cases a4:op≤23<;>by_cases a5:30≤op<;>by_cases a6:op≤51<;>first |(exfalso;omega) |simp[fc16,evKC,evK,evGuard,put,Env.get,Env.keep,entry,Opd.ev,binD,finish,evRes,evRes1,a1,a2,a3,a4,a5,a6]
theorem kR_knd(op:Int):(kR op=102)↔knd op=3:=by
 unfold kR knd
 split
 ·simp
 ·split
  ·simp
  ·split<;>simp
end Go.Proofs.YtalgjkpkkdljaaaGreatDoor
namespace Go.Proofs.YtalgjkpkkdljaaaGreatDoor.Pj
open Go.Vs
structure Ent where
 k:Int
 s:List UInt8
 lv:Int
 a:Int
 b:Int
def Ent.pd(e:Ent):PD:=.agg [.str e.s,.int .i64 e.lv,.int .i64 e.a,.int .i64 e.b]
def look:List Ent→Int→Option Ent
 |[],_=>none
 |e::t,k=>if e.k=k then some e else look t k
def zEnt:PD:=.agg [.str [],.int .i64 0,.int .i64 0,.int .i64 0]
def getT(t:List Ent)(k:Int):D:=match look t k with
 |some e=>.tup [.p e.pd,.p (.bool true)]
 |none=>.tup [.p zEnt,.p (.bool false)]
def binT:List Ent:=[⟨6,[32,43,32],8,8,9⟩,⟨7,[32,38,32],10,10,11⟩,⟨8,[32,45,32],8,8,9⟩,⟨9,[46],12,12,13⟩,⟨10,[32,45,62,32],11,11,12⟩,⟨14,[32,43,43,32],9,9,10⟩,⟨22,[32,43,32],8,8,9⟩,⟨23,[32,45,32],8,8,9⟩,⟨32,[32,105,110,32],7,8,8⟩,⟨33,[32,61,32],7,8,8⟩,⟨38,[32,61,32],7,8,8⟩,⟨39,[32,60,32],7,8,8⟩,⟨41,[32,38,38,32],4,4,5⟩,⟨42,[32,124,124,32],3,3,4⟩,⟨43,[32,61,62,32],2,3,2⟩,⟨44,[32,60,61,62,32],1,1,2⟩,⟨51,[32,117,110,116,105,108,32],5,6,5⟩]
def preT:List Ent:=[⟨11,[126],13,13,0⟩,⟨12,[94],13,13,0⟩,⟨13,[42],13,13,0⟩,⟨21,[35],12,12,0⟩,⟨34,[115,111,109,101,32],7,8,0⟩,⟨35,[110,111,32],7,8,0⟩,⟨36,[111,110,101,32],7,8,0⟩,⟨37,[108,111,110,101,32],7,8,0⟩,⟨40,[110,111,116,32],6,6,0⟩,⟨48,[97,108,119,97,121,115,32],6,6,0⟩,⟨49,[101,118,101,110,116,117,97,108,108,121,32],6,6,0⟩,⟨50,[97,102,116,101,114,32],6,6,0⟩]
def lvl(op:Int):Int:=match look binT op with
 |some e=>e.lv
 |none=>match look preT op with
  |some e=>e.lv
  |none=>if op=5 then 14 else 15
abbrev Kt:=Int×(Bool→List UInt8)
def oprK(p:Kt)(need:Int)(fin:Bool):List UInt8:=
 if(decide (need≤lvl p.1)&&(fin|| !(p.1==45||p.1==46)))=true then p.2 fin else 40::(p.2 true++[41])
def zK:Kt:=(0,fun _=>[])
def kK(kids:List Kt)(i:Nat):Kt:=(kids[i]?).getD zK
def joinL(sep:List UInt8):List (List UInt8)→List UInt8
 |[]=>[]
 |[x]=>x
 |x::y::r=>x++(sep++joinL sep (y::r))
def bndT(nm:List UInt8)(kids:List Kt):List UInt8:=nm++([58,32]++(oprK (kK kids 0) 8 true++([32,124,32]++(kK kids 1).2 true)))
def constT(op:Int):List UInt8:=
 if op=3 then[117,110,105,118] else if op=4 then[105,100,101,110] else if op=30 then[116,114,117,101] else if op=31 then[102,97,108,115,101] else[]
def txtOf(op:Int)(nm:List UInt8)(n:Int)(kids:List Kt)(fin:Bool):List UInt8:=
 match look binT op with
 |some e=>oprK (kK kids 0) e.a false++(e.s++oprK (kK kids 1) e.b fin)
 |none=>match look preT op with
  |some e=>e.s++oprK (kK kids 0) e.a fin
  |none=>
   if op=1 then nm
   else if op=2 then[110,111,110,101]++(if n=1 then[] else[91]++(Lib.itoa n++[93]))
   else if op=20 then Lib.itoa n
   else if op=5 then oprK (kK kids 0) 14 false++[39]
   else if op=45 then[97,108,108,32]++bndT nm kids
   else if op=46 then[115,111,109,101,32]++bndT nm kids
   else if op=15 then[123]++(bndT nm kids++[125])
   else if op=47 then nm++([91]++(joinL [44,32] (kids.map fun k=>oprK k 8 true)++[93]))
   else constT op
mutual
def txt:Nd→Bool→List UInt8
 | .mk op nm n _ ks _=>txtOf op nm n (txtL ks)
def txtL:List Nd→List Kt
 |[]=>[]
 |k::ks=>(k.op,txt k)::txtL ks
end
end Go.Proofs.YtalgjkpkkdljaaaGreatDoor.Pj
namespace Go.Proofs.YtalgjkpkkdljaaaGreatDoor
open Go.Proofs.YtalgjkpkkdljaaaGreatDoor.Pj
def Nd.kt(a:Nd):Kt:=(a.op,txt a)
end Go.Proofs.YtalgjkpkkdljaaaGreatDoor
namespace Go.Proofs.YtalgjkpkkdljaaaGreatDoor.Pj
open Go.Vs
section
variable {a : Nd} (hl0 : look binT a.op = none) (hl : look preT a.op = none) (fin f : Bool) (l : List UInt8) (hb : l.length + (txt a fin).length ≤ 100000000000000)
include hl0 hl hb
end
end Go.Proofs.YtalgjkpkkdljaaaGreatDoor.Pj
namespace Go.Proofs.YtalgjkpkkdljaaaGreatDoor.Pj
open Go.Vs
end Go.Proofs.YtalgjkpkkdljaaaGreatDoor.Pj
namespace Go.Proofs.YtalgjkpkkdljaaaGreatDoor
open Go.Proofs.YtalgjkpkkdljaaaGreatDoor.Pj
mutual
def Nd.i64s:Nd→Prop
 | .mk _ _ n _ ks _=>i64 n∧Nd.i64sL ks
def Nd.i64sL:List Nd→Prop
 |[]=>True
 |k::ks=>k.i64s∧Nd.i64sL ks
end
end Go.Proofs.YtalgjkpkkdljaaaGreatDoor
namespace Go.Proofs.YtalgjkpkkdljaaaGreatDoor.Pj
open Go.Vs
end Go.Proofs.YtalgjkpkkdljaaaGreatDoor.Pj
namespace Go.Proofs.YtalgjkpkkdljaaaGreatDoor
open Go.Vs
def pc(s:List UInt8):Nat:=s.count 40
abbrev PT(x:Nd)(f:Bool):Nat:=pc (Pj.txt x f)
structure Rf (x:Nd):Prop where
 lo:PT x true≤PT x false
 hi:PT x false≤PT x true+1
 nf:knd x.op≠3→PT x false=PT x true
theorem Rf.same{x:Nd}(h:PT x false=PT x true):Rf x:=⟨by omega,by omega,fun _=>h⟩
def isLp(x:Tok):Bool:=x.t==[40]
def lp(c:Rd)(i:Nat):Nat:=(c.ts.drop i).countP isLp
def Bin.na(b:Bin):Nat:=if b.r then b.lv+1 else if b.lv=7 then 8 else b.lv
structure BOk (b:Bin) (op:Int) (e:BE):Prop where
 look:lookO bopT op=some e
 lv:e.lv=b.lv
 nx:e.b=b.nx
 na:e.a=b.na
 k3:e.kd=3→e.lv≤5
 k7:e.kd≠3→7≤e.lv
 k13:13≤e.b→e.kd=1
 o3:knd op=3→e.lv≤7
 pc0:pc e.tok.2=0
 o8:knd op≠3→8≤e.lv
 kd:e.kd=1∨e.kd=2∨e.kd=3
structure POk (p:Pre) (e:PE):Prop where
 look:lookO popT p.op=some e
 a:e.a=p.lv
 pc0:pc e.tok.2=0
 k8:8≤e.a→e.kd=1
 row:∀(s:List UInt8) (b:Bin),lookT binT s=some b→b.lv<p.lv→b.lv≠7→b.na≤e.lv
 nf:knd p.op≠3→12≤e.lv
 f7:knd p.op=3→e.lv≤7
 n7:p.lv≠7
 p1:1≤p.lv
 p13:p.lv≤13
 l12:e.lv=12→knd p.op=2
 l6:6≤e.lv
 kd:e.kd=1∨e.kd=3
def Qn(c:Rd)(j:Nat):Prop:=∃b,lookT binT (c.tok j).t=some b∧(c.tok j).k≠0∧b.lv≠7
def badK(lev:Nat)(op:Int):Prop:=(8≤lev∧knd op=3)∨(13≤lev∧knd op=2)
def Dn(c:Rd)(lev j:Nat):Prop:=∀b,lookT binT (c.tok j).t=some b→(c.tok j).k≠0→b.lv<lev∨b.lv=7
def An(c:Rd)(lev i j:Nat)(x:Nd):Prop:=
 lp c j+PT x true+1≤lp c i∨(lp c j+PT x true≤lp c i∧(Qn c j→lp c j+PT x false≤lp c i∧x.op≠45∧x.op≠46)∧(lev≤lvN x.op∨badK lev x.op))
structure Pg (c:Rd) (lev i j:Nat) (x:Nd):Prop where
 rf:Rf x
 an:An c lev i j x
 dn:Dn c lev j
def Nm0(c:Rd):Prop:=∀i,namedB (c.tok i)=true→pc (c.tok i).t=0
def Deep(c:Rd)(prs:Nat→Nat→PR Nd):Prop:=∀lev a y a',1≤lev→lev≤13→lev≠7→prs lev a= .ok y a'→Pg c lev a a' y
section
variable {c : Rd} {prs : Nat → Nat → PR Nd} (hN : Nm0 c) (hD : Deep c prs)
include hD
end
end Go.Proofs.YtalgjkpkkdljaaaGreatDoor
namespace Go.Proofs.YtalgjkpkkdljaaaGreatDoor
open Go.Vs
def Nx(c:Rd)(j:Nat)(cmp:Bool)(op:Int):Prop:=
 ∀b,lookT binT (c.tok j).t=some b→(c.tok j).k≠0→(b.lv=7→cmp=false)→(7≤b.lv→knd op≠3)→b.na≤lvN op
structure Sx (c:Rd) (lev i j:Nat) (cmp:Bool) (x:Nd):Prop where
 rf:Rf x
 an:lp c j+PT x true+1≤lp c i∨(lp c j+PT x true≤lp c i∧(Qn c j→lp c j+PT x false≤lp c i∧x.op≠45∧x.op≠46)∧(lev≤lvN x.op∨badK lev x.op)∧Nx c j cmp x.op)
theorem Sx.a{c:Rd}{lev i j:Nat}{cmp:Bool}{x:Nd}(h:Sx c lev i j cmp x):An c lev i j x:=by
 rcases h.an with q |⟨q1,q2,q3,_⟩
 ·exact .inl q
 ·exact .inr ⟨q1,q2,q3⟩
section
variable {c : Rd} {prs : Nat → Nat → PR Nd} (hN : Nm0 c) (hD : Deep c prs)
include hN hD
end
end Go.Proofs.YtalgjkpkkdljaaaGreatDoor
namespace Go.Proofs.YtalgjkpkkdljaaaGreatDoor
open Go.Vs
mutual
theorem meas_size:∀(a:Nd) (d l c:Int),meas a d l=some c→c=a.size∧c≤l
 | .mk op nm n _ ks _,d,l,c,h=>by
  simp only[meas] at h
  split at h
  ·cases h
  ·rename_i hn
   have:=measL_size ks d l 1 c h (by omega)
   simp only[Nd.size]
   omega
theorem measL_size:∀(ks:List Nd) (d l cnt c:Int),measL ks d l cnt=some c→cnt≤l→c=cnt+Nd.sizeL ks∧c≤l
 |[],d,l,cnt,c,h,hl=>by
  simp only[measL,Option.some.injEq] at h
  simp only[Nd.sizeL]
  omega
 |k::ks,d,l,cnt,c,h,hl=>by
  simp only[measL] at h
  split at h
  ·rename_i c1 h1
   have g1:=meas_size k _ _ _ h1
   have g2:=measL_size ks d l (cnt+c1) c h (by omega)
   simp only[Nd.sizeL]
   omega
  ·cases h
end
theorem valid_size{a:Nd}(h:validN a=true):a.size≤400:=by
 unfold validN at h
 obtain⟨c,hc⟩:=Option.isSome_iff_exists.1 h
 have:=meas_size a 1 400 c hc
 omega
theorem pf_valid{s:List UInt8}{n:Nd}(h:pf s=(n,.nils)):validN n=true∧knd n.op=3:=by
 unfold pf at h
 split at h
 ·cases h
 ·split at h
  ·rename_i m a hm
   cases h
   unfold formulaP at hm
   obtain⟨x,b,h1,h2⟩:=bind_inv hm
   have hx:n=x:=by
    split at h2
    ·exact absurd h2 wrongP_bad
    ·cases h2;rfl
   rw[hx]
   unfold wholeP at h1
   obtain⟨y,b',h3,h4⟩:=bind_inv h1
   split at h4
   ·cases h4
   ·rename_i hk
    split at h4
    ·cases h4
    ·rename_i hv
     cases h4
     refine⟨?_,?_⟩
     ·cases q:validN x with
      |true=>rfl
      |false=>exact absurd q hv
     ·cases q:decide (knd x.op=3) with
      |true=>exact of_decide_eq_true q
      |false=>exact absurd (of_decide_eq_false q) hk
  ·cases h
def bl:List UInt8→Int
 |[]=>0
 |b::s=>(if b=40 then 1 else if b=41 then -1 else 0)+bl s
theorem bl_app:∀s t:List UInt8,bl (s++t)=bl s+bl t
 |[],t=>by simp[bl]
 |b::s,t=>by simp only[List.cons_append,bl,bl_app s t];omega
structure Bl (s:List UInt8):Prop where
 z:bl s=0
 d:∀i,bl (s.drop i)≤0
theorem Bl.app{s t:List UInt8}(h:Bl s)(k:Bl t):Bl (s++t):=by
 refine⟨by rw[bl_app,h.z,k.z];rfl,fun i=>?_⟩
 rw[List.drop_append,bl_app]
 have:=h.d i
 have:=k.d (i-s.length)
 omega
def noP(s:List UInt8):Bool:=s.all fun b=>b !=40&&b !=41
theorem bl_no:∀{s:List UInt8},noP s=true→bl s=0
 |[],_=>rfl
 |b::s,h=>by
  unfold noP at h
  simp only[List.all_cons,Bool.and_eq_true,bne_iff_ne] at h
  simp only[bl]
  rw[if_neg h.1.1,if_neg h.1.2,bl_no h.2]
  rfl
theorem Bl.no{s:List UInt8}(h:noP s=true):Bl s:=by
 refine⟨bl_no h,fun i=>?_⟩
 have :noP (s.drop i)=true:=by
  unfold noP at h⊢
  rw[List.all_eq_true] at h⊢
  exact fun x hx=>h x (List.mem_of_mem_drop hx)
 rw[bl_no this]
 exact Int.le_refl _
def stp(o:Int)(b:UInt8):Int:=(if b=40 then o+1 else o)-(if b=41 then 1 else 0)
def cl:Int→List UInt8→Option Nat
 |_,[]=>none
 |o,b::r=>if stp o b=0 then some 0 else(cl (stp o b) r).map (· +1)
theorem stp_bl(o:Int)(b:UInt8)(s:List UInt8):stp o b+bl s=o+bl (b::s):=by
 simp only[stp,bl]
 by_cases h:b=40
 ·subst h;simp;omega
 ·by_cases h':b=41
  ·subst h';simp;omega
  ·simp[h,h']
theorem cl_some:∀(r:List UInt8) (o:Int),0<o→o+bl r≤0→∃k,cl o r=some k
 |[],o,h,h'=>by simp only[bl] at h';omega
 |b::r,o,h,h'=>by
  have hs:=stp_bl o b r
  simp only[cl]
  split
  ·exact⟨0,rfl⟩
  ·rename_i h0
   have :0<stp o b:=by
    unfold stp at h0⊢
    split at h0<;>split at h0<;>split<;>omega
   obtain⟨k,hk⟩:=cl_some r (stp o b) this (by omega)
   exact⟨k+1,by rw[hk];rfl⟩
theorem cl_at:∀(r:List UInt8) (o:Int) (k:Nat),0≤o→cl o r=some k→k<r.length∧(0<o→r[k]? =some 41)
 |b::r,o,k,h0,h=>by
  simp only[cl] at h
  split at h
  ·rename_i hz
   cases h
   refine⟨by simp,fun ho=>?_⟩
   have :b=41:=by
    unfold stp at hz
    by_cases q:b=41
    ·exact q
    ·rw[if_neg q] at hz
     split at hz<;>omega
   rw[this];rfl
  ·rename_i hz
   cases hc:cl (stp o b) r with
   |none=>rw[hc] at h;cases h
   |some m=>
    rw[hc] at h
    cases h
    by_cases ho:0<o
    ·have hp:0<stp o b:=by
      unfold stp at hz⊢
      split at hz<;>split at hz<;>split<;>omega
     have ih:=cl_at r (stp o b) m (by omega) hc
     exact⟨by simp only[List.length_cons];omega,fun _=>by simpa using ih.2 hp⟩
    ·by_cases hn:0≤stp o b
     ·have ih:=cl_at r (stp o b) m hn hc
      exact⟨by simp only[List.length_cons];omega,fun q=>absurd q ho⟩
     ·refine⟨?_,fun q=>absurd q ho⟩
      have :∀(r:List UInt8) (o:Int) (k:Nat),cl o r=some k→k<r.length:=by
       intro r
       induction r with
       |nil=>intro o k h;cases h
       |cons b r ih=>
        intro o k h
        simp only[cl] at h
        split at h
        ·cases h;simp
        ·cases hc:cl (stp o b) r with
         |none=>rw[hc] at h;cases h
         |some m=>
          rw[hc] at h;cases h
          have:=ih _ _ hc
          simp only[List.length_cons];omega
      have:=this r _ _ hc
      simp only[List.length_cons];omega
theorem closes{s:List UInt8}(h:Bl s){i:Nat}(hi:s[i]? =some 40):∃k,cl 0 (s.drop i)=some k∧1≤k∧i+k<s.length∧s[i+k]? =some 41:=by
 have hl:i<s.length:=(List.getElem?_eq_some_iff.1 hi).1
 have hg:s[i]=40:=(List.getElem?_eq_some_iff.1 hi).2
 have hd:s.drop i=40::s.drop (i+1):=by rw[List.drop_eq_getElem_cons hl,hg]
 have hb:=h.d i
 rw[hd] at hb
 have hs:stp 0 40=1:=by decide
 have hc:cl 0 (40::s.drop (i+1))=(cl 1 (s.drop (i+1))).map (· +1):=by
  simp only[cl,hs]
  rw[if_neg (by decide)]
 obtain⟨m,hm⟩:=cl_some (s.drop (i+1)) 1 (by decide) (by simpa[bl] using hb)
 obtain⟨q1,q2⟩:=cl_at _ 1 m (by decide) hm
 refine⟨m+1,by rw[hd,hc,hm];rfl,by omega,?_,?_⟩
 ·rw[List.length_drop] at q1;omega
 ·have:=q2 (by decide)
  rw[List.getElem?_drop] at this
  rw[←this]
  congr 1
  omega
theorem pf_snd(s:List UInt8):(pf s).2= .nils∨∃x,(pf s).2= .slice 2 [x]:=by
 unfold pf
 split
 ·exact .inr ⟨_,rfl⟩
 ·split
  ·exact .inl rfl
  ·exact .inr ⟨_,rfl⟩
structure Row (sz:Nat) (x:PD) (es:List PD):Prop where
 len:lenD 1 (.p x)=some es.length
 at_:∀(i:Nat) e,es[i]? =some e→iaddrD none sz (.p x) (i:Int)=some (.ro e.cells 0)
 one:x.one=true
theorem row_slice(sz:Nat)(es:List PD):Row sz (.slice sz es) es:=by
 refine⟨rfl,fun i e h=>?_,rfl⟩
 simp[iaddrD,D.elems?,h]
theorem row_nils(sz:Nat):Row sz .nils []:=⟨rfl,fun i e h=>(by cases h),rfl⟩
def vtS(s:List UInt8)(c:List PD)(r:Env):St:=⟨(0,.p (.str s))::(3,.p (.bool true))::(4,.box 0 0)::r,⟨[c.map .p],[]⟩⟩
section
variable (s : List UInt8) (x0 x1 x2 x3 : PD)
theorem vt_end0{d:PD}{es:List PD}(hr:Row 2 d es):∃env,evS (call pg) pg.G iterX fc3_b0 (vtS s [x0,x1,x2,x3] [(5,.p d),(6,.p (.int .i64 es.length))])=some (.exit 0,⟨env,⟨[[.p x0,.p x1,.p x2,.p x3]],[]⟩⟩)∧env.get 0= .p (.str s)∧env.get 3= .p (.bool true)∧env.get 4= .box 0 0:=by
 have hl:=hr.len
 simp only[vtS,List.map_cons,List.map_nil]
 apply Exists.intro
 refine⟨?_,?_,?_,?_⟩
 ·conv=>lhs;simp[fc3_b0,evKC,evK,evGuard,put,Env.get,Env.keep,entry,Opd.ev,splice,cutAt,indexD,D.asInt?,D.asNat?,u8,binD,strBin,unD,boundsD,sliceD,sub,minmaxD,eqvL,PD.eqv,clsP,cls,clsR,isCl,isW,apartRW,offB,apartWW,clash,insOk,finish,evRes,evRes1,mapO,D.cells,PD.cells,D.refsL,D.refs,D.toksL,D.toks,mkAgg,pures,fillD,fillE,appendD,srcD,D.elems?,D.asPD,Int.toNat_natCast,srcH,srcBH,eqD,D.asPDL,isMapC,reach,boxRefs,boxToks,ins,Vs.nodupB,idx,D.renL,D.ren,back,firstN,putAll,Res.ren,locD,below,Out.ren,List.map,ld_succ,ld_zero,st_succ,st_zero,oI,oS,oN,oP,oB,oL,oT,oF,oE,ldr0,ldr1,ldr2,ldr3,ldr4,ldr5,ldr6,str1',str3',hl]
 all_goals rfl
theorem vt_step0{d:PD}{es:List PD}(hr:Row 2 d es)(hn:es.length≤20){i:Nat}{e:Int}{p:Nat}(he:es[i]? =some (dg e p))(h0:e≠0)(hp:p≤s.length):
    evS (call pg) pg.G iterX fc3_b0 (vtS s [x0,x1,x2,x3] [(5,.p d),(6,.p (.int .i64 i))])=some (.norm,vtS s [x0,x1,x2,x3] [(5,.p d),(6,.p (.int .i64 ((i+1 :Nat):Int)))]):=by
 have hl:=hr.len
 have hi:=(List.getElem?_eq_some_iff.1 he).1
 have ha:=hr.at_ i _ he
 have hlt:(i:Int)<(es.length:Int):=by omega
 have hw:=inc64 (k:=i) (by omega)
 have ek:((i+1 :Nat):Int)=(i:Int)+1:=rfl
 rw[ek] at hw
 have e0:(e==0)=false:=by simp[h0]
 have p0:¬(p:Int)<0:=by omega
 have p1:¬(p:Int)>(s.length:Int):=by omega
 have p2:¬(s.length:Int)<(p:Int):=by omega
 have p3:¬(i:Int)≥20:=by omega
 have p4:¬(20 :Int)≤(i:Int):=by omega
 have hc:(dg e p).cells=[.int .i64 e,.int .i64 p]:=by simp[dg,PD.cells]
 rw[hc] at ha
 have l0:∀G H,loadD G H none (.ro [.int .i64 e,.int .i64 p] 0)=some (.p (.int .i64 e)):=fun _ _=>rfl
 have l1:∀G H,loadD G H none (.ro [.int .i64 e,.int .i64 p] 1)=some (.p (.int .i64 p)):=fun _ _=>rfl
 simp only[vtS,List.map_cons,List.map_nil,ek]
 simp[fc3_b0,evKC,evK,evGuard,put,Env.get,Env.keep,Opd.ev,D.asInt?,binD,List.map,hl,ha,hlt,hw,e0,p0,p1,p3,l0,l1,lenD_str]
theorem vt_end1{es:List PD}(hr:Row 7 x2 es):∃env,evS (call pg) pg.G iterX fc3_b1 (vtS s [x0,x1,x2,x3] [(7,.p (.int .i64 es.length))])=some (.exit 2,⟨env,⟨[[.p x0,.p x1,.p x2,.p x3]],[]⟩⟩)∧env.get 0= .p (.str s)∧env.get 3= .p (.bool true)∧env.get 4= .box 0 0:=by
 have hl:=hr.len
 simp only[vtS,List.map_cons,List.map_nil]
 apply Exists.intro
 refine⟨?_,?_,?_,?_⟩
 ·conv=>lhs;simp[fc3_b1,evKC,evK,evGuard,put,Env.get,Env.keep,entry,Opd.ev,splice,cutAt,indexD,D.asInt?,D.asNat?,u8,binD,strBin,unD,boundsD,sliceD,sub,minmaxD,eqvL,PD.eqv,clsP,cls,clsR,isCl,isW,apartRW,offB,apartWW,clash,insOk,finish,evRes,evRes1,mapO,D.cells,PD.cells,D.refsL,D.refs,D.toksL,D.toks,mkAgg,pures,fillD,fillE,appendD,srcD,D.elems?,D.asPD,Int.toNat_natCast,srcH,srcBH,eqD,D.asPDL,isMapC,reach,boxRefs,boxToks,ins,Vs.nodupB,idx,D.renL,D.ren,back,firstN,putAll,Res.ren,locD,below,Out.ren,List.map,ld_succ,ld_zero,st_succ,st_zero,oI,oS,oN,oP,oB,oL,oT,oF,oE,ldr0,ldr1,ldr2,ldr3,ldr4,ldr5,ldr6,str1',str3',hl]
 all_goals rfl
theorem ld_ro2{G:Nat→Option (List PD)}{H:Hp}(x y:PD)(n:Nd):loadD G H (some 5) (.ro (x::y::n.cells) 2)=some (.p n.pd):=by rw[pd_cells];rfl
theorem ld_ro1{G:Nat→Option (List PD)}{H:Hp}(x:PD)(n:Nd):loadD G H (some 5) (.ro (x::n.cells) 1)=some (.p n.pd):=by rw[pd_cells];rfl
theorem ld_op2{G:Nat→Option (List PD)}{H:Hp}(x y:PD)(n:Nd):loadD G H none (.ro (x::y::n.cells) 2)=some (.p (.int .i64 n.op)):=rfl
theorem ld_op1{G:Nat→Option (List PD)}{H:Hp}(x:PD)(n:Nd):loadD G H none (.ro (x::n.cells) 1)=some (.p (.int .i64 n.op)):=rfl
theorem kR_ne{op:Int}(h:knd op=3):(((kR op:Nat):Int)!=102)=false:=by
 have:=(kR_knd op).2 h
 rw[this];rfl
theorem kR_eq{op:Int}(h:knd op=3):(((kR op:Nat):Int)==102)=true:=by
 have:=(kR_knd op).2 h
 rw[this];rfl
theorem vt_step1{es:List PD}(hr:Row 7 x2 es)(hn:es.length≤20){i:Nat}{y:List UInt8×List (List UInt8×Nat)×Nd}(he:es[i]? =some (pPD y))(hv:validN y.2.2=true)(hk:knd y.2.2.op=3):
    evS (call pg) pg.G iterX fc3_b1 (vtS s [x0,x1,x2,x3] [(7,.p (.int .i64 i))])=some (.norm,vtS s [x0,x1,x2,x3] [(7,.p (.int .i64 ((i+1 :Nat):Int)))]):=by
 have hl:=hr.len
 have hi:=(List.getElem?_eq_some_iff.1 he).1
 have ha:=hr.at_ i _ he
 have hlt:(i:Int)<(es.length:Int):=by omega
 have hw:=inc64 (k:=i) (by omega)
 have ek:((i+1 :Nat):Int)=(i:Int)+1:=rfl
 rw[ek] at hw
 have hc:(pPD y).cells= .str y.1:: .slice 2 (y.2.1.map mPD)::y.2.2.cells:=by simp[pPD,PD.cells]
 rw[hc] at ha
 have hval:=fun H=>valid_eq (a:=y.2.2) (by have:=valid_size hv;omega) H
 rw[hv] at hval
 have hkd:=fun H=>kindR_call y.2.2.op H
 have hk2:=kR_ne hk
 have l0:=fun G H=>ld_ro2 (G:=G) (H:=H) (.str y.1) (.slice 2 (y.2.1.map mPD)) y.2.2
 have l1:=fun G H=>ld_op2 (G:=G) (H:=H) (.str y.1) (.slice 2 (y.2.1.map mPD)) y.2.2
 simp only[vtS,List.map_cons,List.map_nil,ek]
 simp[fc3_b1,evKC,evK,evGuard,put,Env.get,Env.keep,Opd.ev,cutAt,D.asInt?,binD,unD,mapO,D.renL,D.ren,locD,below,Out.ren,List.map,ld_zero,hl,ha,hlt,hw,l0,l1,hval,hkd,hk2]
theorem vt_end2{es:List PD}(hr:Row 6 x3 es):∃env,evS (call pg) pg.G iterX fc3_b2 (vtS s [x0,x1,x2,x3] [(8,.p (.int .i64 es.length))])=some (.exit 4,⟨env,⟨[[.p x0,.p x1,.p x2,.p x3]],[]⟩⟩)∧env.get 0= .p (.str s)∧env.get 3= .p (.bool true)∧env.get 4= .box 0 0:=by
 have hl:=hr.len
 simp only[vtS,List.map_cons,List.map_nil]
 apply Exists.intro
 refine⟨?_,?_,?_,?_⟩
 ·conv=>lhs;simp[fc3_b2,evKC,evK,evGuard,put,Env.get,Env.keep,entry,Opd.ev,splice,cutAt,indexD,D.asInt?,D.asNat?,u8,binD,strBin,unD,boundsD,sliceD,sub,minmaxD,eqvL,PD.eqv,clsP,cls,clsR,isCl,isW,apartRW,offB,apartWW,clash,insOk,finish,evRes,evRes1,mapO,D.cells,PD.cells,D.refsL,D.refs,D.toksL,D.toks,mkAgg,pures,fillD,fillE,appendD,srcD,D.elems?,D.asPD,Int.toNat_natCast,srcH,srcBH,eqD,D.asPDL,isMapC,reach,boxRefs,boxToks,ins,Vs.nodupB,idx,D.renL,D.ren,back,firstN,putAll,Res.ren,locD,below,Out.ren,List.map,ld_succ,ld_zero,st_succ,st_zero,oI,oS,oN,oP,oB,oL,oT,oF,oE,ldr0,ldr1,ldr2,ldr3,ldr4,ldr5,ldr6,str1',str3',hl]
 all_goals rfl
theorem vt_step2{es:List PD}(hr:Row 6 x3 es)(hn:es.length≤20){i:Nat}{y:List UInt8×Nd}(he:es[i]? =some (aPD y))(hv:validN y.2=true)(hk:knd y.2.op=3):
    evS (call pg) pg.G iterX fc3_b2 (vtS s [x0,x1,x2,x3] [(8,.p (.int .i64 i))])=some (.norm,vtS s [x0,x1,x2,x3] [(8,.p (.int .i64 ((i+1 :Nat):Int)))]):=by
 have hl:=hr.len
 have hi:=(List.getElem?_eq_some_iff.1 he).1
 have ha:=hr.at_ i _ he
 have hlt:(i:Int)<(es.length:Int):=by omega
 have hw:=inc64 (k:=i) (by omega)
 have ek:((i+1 :Nat):Int)=(i:Int)+1:=rfl
 rw[ek] at hw
 have hc:(aPD y).cells= .str y.1::y.2.cells:=by simp[aPD,PD.cells]
 rw[hc] at ha
 have hval:=fun H=>valid_eq (a:=y.2) (by have:=valid_size hv;omega) H
 rw[hv] at hval
 have hkd:=fun H=>kindR_call y.2.op H
 have hk2:=kR_ne hk
 have l0:=fun G H=>ld_ro1 (G:=G) (H:=H) (.str y.1) y.2
 have l1:=fun G H=>ld_op1 (G:=G) (H:=H) (.str y.1) y.2
 simp only[vtS,List.map_cons,List.map_nil,ek]
 simp[fc3_b2,evKC,evK,evGuard,put,Env.get,Env.keep,Opd.ev,cutAt,D.asInt?,binD,unD,mapO,D.renL,D.ren,locD,below,Out.ren,List.map,ld_zero,hl,ha,hlt,hw,l0,l1,hval,hkd,hk2]
theorem vt_loop{keep:List Nat}{b:SC}{n:Nat}{P:Nat→St}{o:Nat}(hk:∀i,(P i).env.keep keep=(P i).env)(hend:∃env,evS (call pg) pg.G iterX b (P n)=some (.exit o,⟨env,⟨[[.p x0,.p x1,.p x2,.p x3]],[]⟩⟩)∧env.get 0= .p (.str s)∧env.get 3= .p (.bool true)∧env.get 4= .box 0 0)
    (hstep:∀i,i<n→evS (call pg) pg.G iterX b (P i)=some (.norm,P (i+1))):∀(m i:Nat),n-i≤m→i≤n→∃env,loopK (call pg) pg.G keep b (P i)=some (.exit o,⟨env,⟨[[.p x0,.p x1,.p x2,.p x3]],[]⟩⟩)∧env.get 0= .p (.str s)∧env.get 3= .p (.bool true)∧env.get 4= .box 0 0:=by
 intro m
 induction m with
 |zero=>
  intro i h1 h2
  have :i=n:=by omega
  subst this
  obtain⟨env,e,g⟩:=hend
  exact⟨env,loopK_out (by rw[hk];exact e) (by simp),g⟩
 |succ m ih=>
  intro i h1 h2
  by_cases hq:i=n
  ·subst hq
   obtain⟨env,e,g⟩:=hend
   exact⟨env,loopK_out (by rw[hk];exact e) (by simp),g⟩
  ·obtain⟨env,e,g⟩:=ih (i+1) (by omega) (by omega)
   refine⟨env,?_,g⟩
   rw[←e]
   exact loopK_norm (by rw[hk];exact hstep i (by omega))
end
end Go.Proofs.YtalgjkpkkdljaaaGreatDoor
namespace Go.Proofs.YtalgjkpkkdljaaaGreatDoor
open Go.Vs
def DgOk(n:Nat)(x:PD):Prop:=∃e p,x=dg e p∧e≠0∧p≤n
theorem specL_ok{s:List UInt8}(hs:s.length≤20000):∀(n a:Nat) (q:Sp),q.Wf→(∀x∈q.f,DgOk s.length x)→q.f.length≤20→a≤(rdS s q).ts.length→
    (specL s n q a).Wf∧(∀x∈(specL s n q a).f,DgOk s.length x)∧(specL s n q a).f.length≤20
 | 0,a,q,hw,hf,hl,ha=>⟨hw,hf,hl⟩
 |n+1,a,q,hw,hf,hl,ha=>by
  have h:(rdS s q).Sz:=rdX_sz s _ _ _ _ _ hs
  unfold specL
  split
  ·rename_i hc
   split
   ·rename_i q' a' hd
    obtain⟨w1,w2⟩:=decl_lt h hc.1 hd
    obtain⟨w3,w4⟩:=decl_wf h hw hd
    exact specL_ok hs n a' q' w3 (by rw[w4];exact hf) (by rw[w4];exact hl) w2
   ·rename_i e p a' hd
    have hb:=decl_bo h (po_rdS s q) hc.1 hd
    have hf2:∀x∈(q.flt e p).f,DgOk s.length x:=fun x hx=>by
     rcases List.mem_append.1 hx with r |r
     ·exact hf x r
     ·exact⟨e,p,List.mem_singleton.1 r,hb.e0,hb.p⟩
    have hl2:(q.flt e p).f.length≤20:=by simp[Sp.flt];omega
    split
    ·exact⟨hw.flt e p,hf2,hl2⟩
    ·exact specL_ok hs n _ _ (hw.flt e p) hf2 hl2 (skipP_le _ _ hb.len).2
  ·exact⟨hw,hf,hl⟩
theorem lex_err{s:List UInt8}:(Lx.lex s).2.2≤s.length:=by
 unfold Lx.lex
 split
 ·exact Nat.zero_le _
 ·rename_i h
  have:=Lx.lex_lexR (s:=s) (by omega)
  unfold Lx.lex at this
  rw[if_neg h] at this
  rw[this]
  unfold Lx.asLexed
  split
  ·exact Nat.zero_le _
  ·exact Nat.sub_le _ _
structure PaR (s:List UInt8) (AD:D) (x0 x1 x2 x3 d:PD) (es:List PD) (ps:List (List UInt8×List (List UInt8×Nat)×Nd)) (fs:List (List UInt8×Nd)):Prop where
 eq:parseD s= .tup [AD,.p d]
 st:∀bx tk,storeD ⟨[.p .nils,.p .nils,.p .nils,.p .nils]::bx,tk⟩ 4 (.box 0 0) AD=some ⟨[.p x0,.p x1,.p x2,.p x3]::bx,tk⟩
 rd:Row 2 d es
 rp:Row 7 x2 (ps.map pPD)
 ra:Row 6 x3 (fs.map aPD)
 ne:es.length≤20
 np:ps.length≤20
 na:fs.length≤20
 de:∀x∈es,DgOk s.length x
 pv:∀x∈ps,validN x.2.2=true∧knd x.2.2.op=3
 av:∀x∈fs,validN x.2=true∧knd x.2.op=3
theorem st_z4(bx:List (List D))(tk:List Nat):storeD ⟨[.p .nils,.p .nils,.p .nils,.p .nils]::bx,tk⟩ 4 (.box 0 0) z4=some ⟨[.p .nils,.p .nils,.p .nils,.p .nils]::bx,tk⟩:=by
 simp[storeD,z4,isMapC,D.cells,D.one,PD.one,splice]
theorem pa_case(s:List UInt8):∃AD x0 x1 x2 x3 d es ps fs,PaR s AD x0 x1 x2 x3 d es ps fs:=by
 by_cases he:(Lx.lex s).2.1=0
 ·have hs:=lex_small he
  have hts:(rdS s q0).ts.length=(Lx.lex s).1.length:=by rw[show(rdS s q0).ts=(Lx.lex s).1 from rdX_ts ..]
  obtain⟨w1,w2,w3⟩:=specL_ok hs ((Lx.lex s).1.length+1) 0 q0 wf_q0 (fun x hx=>(List.not_mem_nil hx).elim) (by decide) (Nat.zero_le _)
  rw[show specL s ((Lx.lex s).1.length+1) q0 0=parseS s from rfl] at w1 w2 w3
  by_cases hf:(parseS s).f=[]
  ·refine⟨(parseS s).d,.slice 2 ((parseS s).S.map sPD),.slice 3 ((parseS s).F.map fPD),.slice 7 ((parseS s).P.map pPD),.slice 6 ((parseS s).A.map aPD),.nils,[],(parseS s).P,(parseS s).A,⟨?_,?_,row_nils 2,row_slice 7 _,row_slice 6 _,by decide,by have:=w1.P;omega,by have:=w1.A;omega,fun x hx=>(List.not_mem_nil hx).elim,w1.pv,w1.av⟩⟩
   ·unfold parseD;rw[if_neg (fun q=>q he),if_pos hf]
   ·intro bx tk
    simp[storeD,Sp.d,isMapC,D.cells,D.one,PD.one,splice]
  ·refine⟨z4,.nils,.nils,.nils,.nils,.slice 2 (parseS s).f,(parseS s).f,[],[],⟨?_,st_z4,row_slice 2 _,row_nils 7,row_nils 6,w3,by decide,by decide,w2,fun x hx=>(List.not_mem_nil hx).elim,fun x hx=>(List.not_mem_nil hx).elim⟩⟩
   unfold parseD;rw[if_neg (fun q=>q he),if_neg hf]
 ·refine⟨z4,.nils,.nils,.nils,.nils,.slice 2 [dg (Lx.lex s).2.1 (Lx.lex s).2.2],[dg (Lx.lex s).2.1 (Lx.lex s).2.2],[],[],⟨?_,st_z4,row_slice 2 _,row_nils 7,row_nils 6,by simp,by decide,by decide,?_,fun x hx=>(List.not_mem_nil hx).elim,fun x hx=>(List.not_mem_nil hx).elim⟩⟩
  ·unfold parseD;rw[if_pos he]
  ·intro x hx
   exact⟨_,_,List.mem_singleton.1 hx,by omega,lex_err⟩
theorem law3(s:List UInt8):∃H',call pg 3 [.p (.str s)] ⟨[],[]⟩=some (.val (.p (.bool true)),H'):=by
 have hhead:=head13_call
 by_cases hs:(4000 :Int)<(s.length:Int)
 ·exact⟨⟨[],[]⟩,call_body (fc:=fc3) rfl rfl rfl rfl (by simp[fc3,evKC,evK,put,Env.get,Env.keep,entry,Opd.ev,binD,lenD,finish,evRes,evRes1,hhead,hs])⟩
 obtain⟨AD,x0,x1,x2,x3,d,es,ps,fs,R⟩:=pa_case s
 have hpa:=fun H=>pa_eq s (by omega) H
 rw[R.eq] at hpa
 have hpf:=fun H=>pf_eq s (by omega) H
 have dpf:=pf_snd s
 obtain⟨env0,hL0,a0,a3,a4⟩:=vt_loop s x0 x1 x2 x3 (keep:=[0,3,4,5,6]) (b:=fc3_b0) (n:=es.length) (P:=fun i=>vtS s [x0,x1,x2,x3] [(5,.p d),(6,.p (.int .i64 i))]) (o:=0) (fun _=>rfl) (vt_end0 s x0 x1 x2 x3 R.rd) (fun i hi=>by
  obtain⟨e,p,w1,w2,w3⟩:=R.de _ (List.getElem_mem hi)
  exact vt_step0 s x0 x1 x2 x3 R.rd R.ne (by rw[List.getElem?_eq_getElem hi,w1]) w2 w3) es.length 0 (by omega) (by omega)
 have np:=R.np
 have na:=R.na
 obtain⟨env1,hL1,b0,b3,b4⟩:=vt_loop s x0 x1 x2 x3 (keep:=[0,3,4,7]) (b:=fc3_b1) (n:=(ps.map pPD).length) (P:=fun i=>vtS s [x0,x1,x2,x3] [(7,.p (.int .i64 i))]) (o:=2) (fun _=>rfl) (vt_end1 s x0 x1 x2 x3 R.rp) (fun i hi=>by
  rw[List.length_map] at hi
  obtain⟨w1,w2⟩:=R.pv _ (List.getElem_mem hi)
  exact vt_step1 s x0 x1 x2 x3 R.rp (by simp;omega) (y:=ps[i]) (by simp[hi]) w1 w2) (ps.map pPD).length 0 (by omega) (by omega)
 obtain⟨env2,hL2,c0,c3,c4⟩:=vt_loop s x0 x1 x2 x3 (keep:=[0,3,4,8]) (b:=fc3_b2) (n:=(fs.map aPD).length) (P:=fun i=>vtS s [x0,x1,x2,x3] [(8,.p (.int .i64 i))]) (o:=4) (fun _=>rfl) (vt_end2 s x0 x1 x2 x3 R.ra) (fun i hi=>by
  rw[List.length_map] at hi
  obtain⟨w1,w2⟩:=R.av _ (List.getElem_mem hi)
  exact vt_step2 s x0 x1 x2 x3 R.ra (by simp;omega) (y:=fs[i]) (by simp[hi]) w1 w2) (fs.map aPD).length 0 (by omega) (by omega)
 have hst:=R.st
 simp only[vtS,List.map_cons,List.map_nil,Int.natCast_zero] at hL0 hL1 hL2
 generalize hpq:pf s=r at *
 obtain⟨n,dd⟩:=r
 dsimp only at dpf hpf
 have kn:=pone_kids n
 have cn:=kids_cells n
 rcases dpf with rfl |⟨x,rfl⟩
 ·obtain⟨hv,h3⟩:=pf_valid hpq
  have hval:=fun H=>valid_eq (a:=n) (by have:=valid_size hv;omega) H
  rw[hv] at hval
  have hkd:=fun H=>kindR_call n.op H
  have hk2:=kR_eq h3
  rw[pd_cells n] at hpf hval
  refine⟨⟨[[.p x0,.p x1,.p x2,.p x3],n.cells.map .p],[]⟩,call_body (fc:=fc3) rfl rfl rfl rfl ?_⟩
  simp only[Nd.cells,List.map_cons,List.map_nil] at hpf hval⊢
  simp[fc3,evKC,evK,evGuard,put,Env.keep,entry,Opd.ev,splice,cutAt,binD,lenD,sub,finish,evRes,evRes1,D.cells,mkAgg,pures,ld_succ,ld_zero,st_succ,st_zero,oP,hhead,hs,hpa,hst,hL0,hL1,hL2,a0,a3,a4,b0,b3,b4,c0,c3,hpf,hval,hkd,hk2,kn,Env.get]
 ·rw[pd_cells n] at hpf
  refine⟨⟨[[.p x0,.p x1,.p x2,.p x3],n.cells.map .p],[]⟩,call_body (fc:=fc3) rfl rfl rfl rfl ?_⟩
  simp only[Nd.cells,List.map_cons,List.map_nil] at hpf⊢
  simp[fc3,evKC,evK,evGuard,put,Env.keep,entry,Opd.ev,splice,binD,lenD,finish,evRes,evRes1,D.cells,D.elems?,st_succ,st_zero,oP,hhead,hs,hpa,hst,hL0,hL1,hL2,a0,a3,a4,b0,b3,b4,c0,c3,hpf,kn,Env.get]
end Go.Proofs.YtalgjkpkkdljaaaGreatDoor
namespace Go.Proofs.YtalgjkpkkdljaaaGreatDoor
open Go.Vs Go.ChangeShapes Go.WideShapes Go.RowKit
end Go.Proofs.YtalgjkpkkdljaaaGreatDoor
