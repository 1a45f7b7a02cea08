/-
  A value-level evaluator for Go functions; the functions of this cut by it; plain laws. Text G7.
-/
import Derived.Test.YtgplgbonlnodeaaGreatDoorG6
import Derived.Test.YtgplgbonlnodeaaGreatDoorG4
open Bool renaming and_eq_true→bQ,and_self→Kh,eq_false_iff→FR,false_eq_true→ob,or_eq_true→o0
open Int renaming ediv_lt_iff_lt_mul→amU,emod_nonneg→YR,fdiv_eq_ediv_of_nonneg→amO,le_ediv_iff_mul_le→amT,le_refl→YW,mul_assoc→amS,mul_comm→amQ,mul_one→amR,natCast_inj→pZ,natCast_one→uh,natCast_pow→CT,natCast_zero→gJ,one_mul→YX,pow_succ→amP,tdiv_eq_ediv_of_nonneg→YQ,tdiv_nonneg→YP,tmod_eq_emod_of_nonneg→Kn,toNat_natCast→qF,toNat_of_nonneg→Yx,zero_add→YY
open List renaming all_eq_true→gI,append_assoc→oc,append_nil→lA,cons_append→jN,drop_eq_getElem_cons→FX,drop_eq_nil_of_le→Kl,drop_zero→tZ,eq_nil_of_length_eq_zero→tY,ext_getElem?→oh,filter_append→YU,filter_cons→xK,filter_nil→FY,flatMap_cons→ub,getD_cons_succ→PG,getD_cons_zero→YH,getD_eq_getElem?_getD→fE,getElem?_append_left→cH,getElem?_append_right→eL,getElem?_eq_getElem→aA,getElem?_eq_none→lU,getElem?_eq_some_iff→az,getElem?_map→cP,getElem?_set→vX,getElem?_set_ne→dH,getElem?_set_self→j9,getElem_mem→bO,getElem_of_mem→p6,length→oq,length_append→iq,length_cons→dZ,length_eq_zero_iff→Kb,length_filter_le→F5,length_map→cx,length_nil→fW,length_pos_iff→xG,length_replicate→CQ,length_singleton→xL,length_take→pb,map_append→vW,map_congr_left→sV,map_cons→dA,map_drop→Pv,map_map→uf,map_nil→mF,map_take→Pu,mem_append→cW,mem_cons→cN,mem_cons_of_mem→jD,mem_cons_self→pa,mem_flatMap→FU,mem_map→dz,mem_of_getElem?→bS,mem_of_mem_drop→sU,mem_of_mem_take→j8,mem_or_eq_of_mem_set→Kd,mem_range→YF,mem_singleton→mH,nil_append→jm,pairwise_cons→xM,pairwise_iff_getElem→F0,pairwise_map→Ko,range→ku,replicate→eB,replicate_succ→YV,set_append_right→F6,sum_append→Kk,sum_cons→CS,take→rI,take_append_drop→xH,take_length→oo,take_of_length_le→jC,take_succ_cons→YT,take_succ_eq_append_getElem→sW,take_zero→vT
open List.Pairwise renaming filter→PN,imp→PM
open List.cons renaming injEq→FV
open Nat renaming add_assoc→vQ,add_mul→fM,add_sub_cancel→YS,add_sub_cancel_left→vU,eq_zero_or_pos→Kj,le_refl→aV,le_trans→gA,lt_or_ge→iP,lt_trichotomy→FZ,min_eq_left→ue,mul_comm→Ag,mul_le_mul→ug,mul_le_mul_right→kz,not_lt_zero→Ai,pow_succ→PL,sub_self→xE,zero_add→eS,zero_le→b9
open Option renaming getD_some→kU,map_eq_some_iff→au,map_some→eA
open Option.some renaming injEq→bI
open Prod renaming mk→lB
section
open Go.Vs Go.Proofs.YtgplgbonlnodeaaGreatDoor
attribute [local simp] cF aN fF put Env.get Env.keep entry aw.ev ph uk aE cutAt uj D.rJ D.lC u8 vZ ui v5 kB sub v7 p8 PD.eqv jP cls gN rL bq kC nD pj eP qL finish lX qM aP D.aD D.refs D.bz D.cJ ec gU aO ov fj eF D.iR D.eM qF rK sX qJ D.jn aU A8 A9 wL Ba Bb jL B7 gives nx B2 B3 B4 pZ zz dJ below Out.ren D.ren D.ba zF B6 BK BL BM tL zA BN BO BP BQ BR BS BT zC BU BV BW BX zD wZ BZ
namespace Go.Proofs.YtgplgbonlnodeaaGreatDoor
open Go.Vs
set_option maxRecDepth 100000
set_option maxHeartbeats 4000000
theorem ah5(a:Nd):∃r:Bool,∀H,av (call pg) 221 [.p (.agg a.cl)] H=some (.val (.p (.bool r)),H):=by
 have hf:=rf Ul
 conv at hf=>rhs;reduce
 refine⟨decide (30≤a.op),aG (aa:=[_]) hf rfl rfl rfl ?_⟩;clear hf;simp
theorem ah6(ps:Sl Pm)(hp:(els ps).length≤500):∃L:List Vr,L.length=(els ps).length∧∀H,av (call pg) 224 [.p (im ps)] H=some (.val (.p (.slice 66 (L.map Vr.p))),H):=by
 have key:=eY (c:=call pg) (G:=pg.G) (keep:=[0,3,4]) (b:=bd wW 0) (σ:=Nat×List Vr) (fun s=>[(0,.p (im ps)),(3,.bk 0 361 66 (s.2.map Vr.p)),(4,.p (.int .i64 ((s.1:Nat):Int)))]) (fun s=>⟨[],[(s.2.map Vr.p).length]⟩) (fun s=>(els ps).length-s.1) (fun s=>s.1≤(els ps).length∧s.2.length=s.1)
  (fun o e H=>o= .exit 0∧∃L:List Vr,L.length=(els ps).length∧e.get 3= .bk 0 361 66 (L.map Vr.p))
  (by
   rintro⟨i,L⟩ ⟨hi,hL⟩;dsimp only at hi hL⊢;by_cases h:i<(els ps).length
   ·have aM:=EU h;generalize (els ps)[i]=q at *;obtain⟨b,hb⟩:=Cb (NW q.so) (by omega);simp only[uh] at hb;have k1:=bw (k:=i) (by omega);have cG:=fun bx=>Od (e:=361) (sz:=66) (by':=88) (es:=L.map Vr.p) (x:=.agg (kS ⟨q.nm,b⟩)) (bx:=bx) (by rw[cx];omega) (by omega);refine aX (Q:=nx [0,3,4] [(0,.p (im ps)),(3,.bk 0 361 66 (L.map Vr.p++[.agg (kS ⟨q.nm,b⟩)])),(4,.p (.int .i64 ((i+1 :Nat):Int)))] ⟨[],[(L.map Vr.p).length+1]⟩) ?_ ?_
    ·generalize L.map Vr.p=M at *;have ae:=rf (bd wW 0)
     conv at ae=>rhs;reduce
     have hf:=rf wW
     conv at hf=>rhs;reduce
     rw[←ae] at hf;have mz:oV=oV:=rfl
     conv at mz=>rhs;reduce
     try rw[←mz] at hf
     try rw[←mz] at ae
     clear mz;have aK:cE=cE:=rfl
     conv at aK=>rhs;reduce
     try rw[←aK] at hf
     try rw[←aK] at ae
     clear aK;rw[ae];clear hf ae;simp[-fj,-eF,-aE,-aO,cR,lh,h,aM,hb,cG,k1,E7,E8,E9,Fb,zN,ov]
    ·intro o e H hh;refine .inl ⟨(i+1,L++[⟨q.nm,b⟩]),⟨by dsimp only;omega,by simp[hL]⟩,by dsimp only;omega,?_⟩;simpa[Vr.p] using hh
   ·have :i=(els ps).length:=by omega
    subst this;refine aX (Q:=fun o e H=>o= .exit 0∧e.get 3= .bk 0 361 66 (L.map Vr.p)) ?_ ?_
    ·generalize L.map Vr.p=M at *;have ae:=rf (bd wW 0)
     conv at ae=>rhs;reduce
     have hf:=rf wW
     conv at hf=>rhs;reduce
     rw[←ae] at hf;have mz:oV=oV:=rfl
     conv at mz=>rhs;reduce
     try rw[←mz] at hf
     try rw[←mz] at ae
     clear mz;have aK:cE=cE:=rfl
     conv at aK=>rhs;reduce
     try rw[←aK] at hf
     try rw[←aK] at ae
     clear aK;rw[ae];clear hf ae;simp[-aE,-aO,lh]
    ·rintro o e H ⟨rfl,q⟩;exact .inr ⟨by simp,rfl,L,hL,q⟩) (0,[]) ⟨b9 _,rfl⟩
 obtain⟨o,e,H,hx,rfl,L,hL,h3⟩:=bJ key;simp only[gJ,mF,fW] at hx;clear key;refine⟨L,hL,?_⟩;generalize L.map Vr.p=M at *;have ae:=rf (bd wW 0)
 conv at ae=>rhs;reduce
 have hf:=rf wW
 conv at hf=>rhs;reduce
 rw[←ae] at hf;have mz:oV=oV:=rfl
 conv at mz=>rhs;reduce
 try rw[←mz] at hf
 try rw[←mz] at ae
 clear mz;have aK:cE=cE:=rfl
 conv at aK=>rhs;reduce
 try rw[←aK] at hf
 try rw[←aK] at ae
 clear aK;refine aG (aa:=[_]) hf rfl rfl rfl ?_;clear hf ae;simp[qa,hx,h3]
theorem ah7(sp:Sp)(T:Sl Bool)(calls:Nat):aO [.p .aI,.p .aI,.p .aI,.p .aI,.p .aI,.p (.int .i64 0),.p (.bool false)] [(0,4,.p (.agg [jg sp.so,bZ sp.fi,jh sp.pr,ji sp.fa])),(4,1,.p (dy T)),(5,1,.p (.int .i64 ((calls:Nat):Int)))]=some (vB sp T calls false):=by
 simp
theorem ah8{e sz:Nat}{es:List PD}:xh e sz (.pl (.slice sz es)) es:=⟨fun _=>by simp only[SF.d,wL],fun _ k h=>adW h,fun _=>by simp[SF.d,eF,D.iR]⟩
theorem V0(sp:Sp)(ok:nj sp)(hn:nY sp)(calls:Nat)(ps:Sl Pm)(nH:(els ps).length≤500)(a:Nd)(hb:tS a):
    ∃er pos:Int,∀H,av (call pg) 153 [.p (.agg sp.cl),.p (.int .i64 ((calls:Nat):Int)),.p (im ps),.p (.agg a.cl)] H=some (.val (.p (.agg [.int .i64 er,.int .i64 pos])),H):=by
 obtain⟨r,h1⟩:=ah5 a;obtain⟨T,h2⟩:=ahw sp ok;obtain⟨L,hL,h3⟩:=ah6 ps nH;obtain⟨ar,b,er,pos,h4,-⟩:=ah2 sp ok hn 400 a hb.1 (by omega) hb.2 (Jm T) calls false (.pl (.slice 66 (L.map Vr.p))) L ah8 (by have:=hb.1;omega);have h4:=fun bx tk=>h4 _ ⟨bx,tk⟩ rfl;generalize Jm T=T at *;generalize L.map Vr.p=M at *;have hf:=rf Uj
 conv at hf=>rhs;reduce
 have aK:cE=cE:=rfl
 conv at aK=>rhs;reduce
 try rw[←aK] at hf
 clear aK;cases r with
 |false=>
  refine⟨43,a.pos,aG (aa:=[_,_,_,_]) hf rfl rfl rfl ?_⟩;clear hf;simp[-aE,-aO,cu,eZ,oW,h1]
 |true=>
  refine⟨er,pos,aG (aa:=[_,_,_,_]) hf rfl rfl rfl ?_⟩;clear hf;simp[-aE,-aO,cu,cz,eZ,cn,h1,h2,h3,h4,ah7]
theorem ah9(sp:Sp)(ok:nj sp)(hn:nY sp)(ps:Sl Pm)(nH:(els ps).length≤500)(a:Nd)(hb:tS a):
    ∃er pos:Int,∀H,av (call pg) 99 [.p (.agg sp.cl),.p (im ps),.p (.agg a.cl)] H=some (.val (.p (.agg [.int .i64 er,.int .i64 pos])),H):=by
 obtain⟨er,pos,h1⟩:=V0 sp ok hn (els sp.pr).length ps nH a hb;have hf:=rf Uf
 conv at hf=>rhs;reduce
 refine⟨er,pos,aG (aa:=[_,_,_]) hf rfl rfl rfl ?_⟩;clear hf;simp[-aE,-aO,eZ,lj,h1]
theorem aia(x y:Sl Int)(hx:(els x).length<4611686018427387904):∃r:Bool,∀H,av (call pg) 151 [.p (af x),.p (af y)] H=some (.val (.p (.bool r)),H):=by
 have ae:=rf (bd ID 0)
 conv at ae=>rhs;reduce
 have hf:=rf ID
 conv at hf=>rhs;reduce
 rw[←ae] at hf;by_cases h0:(els x).length=(els y).length
 ·have key:=tM (c:=call pg) (G:=pg.G) (keep:=[0,1,5]) (b:=bd ID 0) (fun i=>[(0,.p (af x)),(1,.p (af y)),(5,.p (.int .i64 ((i:Nat):Int)))]) ⟨[],[]⟩ (els x).length (fun _=>True) 0 (fun _=>True) (fun e=>e.get 4= .p (.bool false))
   (fun i hi=>by
    have bp:i<(els y).length:=by omega
    have ha:=cK hi;have hb:=cK bp;have k1:=bw (k:=i) (by omega);generalize (els x)[i]=u at *;generalize (els y)[i]=v at *;rw[ae];clear hf ae;by_cases hc:u=v
    ·subst hc;simp[aR,hi,ha,hb,k1]
    ·simp[aR,hi,ha,hb,hc])
   (by
    rw[ae];clear hf ae;simp[aR])
  rcases key with⟨e,hx,-,-⟩ |⟨e,hx,h4⟩
  ·simp at hx;refine⟨true,aG (aa:=[_,_]) hf rfl rfl rfl ?_⟩;clear hf ae;simp[aR,h0,hx]
   try simp[←h0,hx]
  ·simp at hx;refine⟨false,aG (aa:=[_,_]) hf rfl rfl rfl ?_⟩;clear hf ae;simp[aR,h0,hx,h4]
   try simp[←h0,hx,h4]
 ·refine⟨false,aG (aa:=[_,_]) hf rfl rfl rfl ?_⟩;clear hf ae;have h1:¬((els x).length:Int)=((els y).length:Int):=by omega
  simp[aR,h1]
def Rw(c n:Nat)(d:D)(rest:List (List D)):Prop:=
 rest.length≤n+c∧(∀cs∈rest,∃ys:List PD,cs=ys.map D.p)∧((d= .p .aI∧n=0)∨∃(i:Nat) (ys:List PD),d= .aB (i+1) 168 n 2∧rest[i]? =some (ys.map D.p)∧ys.length=n*2∧0<n)
theorem Ju{c n:Nat}{d:D}{rest:List (List D)}(h:Rw c n d rest)(hn:n<1000)(b0:List D)(k:List Nat)(x y:PD):
    ∃d' gw,gL 168 2 16 d 1 [.p x,.p y] ⟨b0::rest,k⟩=some (d',⟨b0::gw,k⟩)∧Rw c (n+1) d' gw:=by
 have iC:roomy 1 16=true:=by decide
 have hr:roomy (n+1) 16=true:=by
  simp only[roomy,bQ,decide_eq_true_eq];omega
 obtain⟨hlen,cg,h⟩:=h;rcases h with⟨rfl,rfl⟩ |⟨i,ys,rfl,hi,hy,js⟩
 ·refine⟨.aB (rest.length+1) 168 1 2,rest++[[.p x,.p y]],?_,by simp;omega,fun cs ak=>?_,.inr ⟨rest.length,[x,y],rfl,by simp,rfl,by omega⟩⟩
  ·simp[gL,mK,iC]
  ·rcases cW.1 ak with h |h
   ·exact cg cs h
   ·exact⟨[x,y],by simpa using h⟩
 ·have fC:i<rest.length:=(az.1 hi).1;refine⟨.aB (rest.length+1) 168 (n+1) 2,rest.set i []++[(ys++[x,y]).map D.p],?_,by simp;omega,fun cs ak=>?_,.inr ⟨rest.length,ys++[x,y],rfl,?_,by simp[hy];omega,by omega⟩⟩
  ·have h1:(b0::rest)[i+1]? =some (ys.map D.p):=by simpa using hi
   have h2:¬(n+1)*2≤n*2:=by omega
   have h3:ys≠[]:=fun e=>by rw[e] at hy;simp at hy;omega
   have h4:rI (n*2) (ys.map D.p)=ys.map D.p:=jC (by simp[hy]);have h5:rI (n*2) ys=ys:=jC (by simp[hy]);simp[gL,hi,hy,h2,h3,hr,h4]
  ·rcases cW.1 ak with h |h
   ·rcases Kd h with h |rfl
    ·exact cg cs h
    ·exact⟨[],rfl⟩
   ·exact⟨ys++[x,y],by simpa using h⟩
  ·simp
theorem aib(sp:Sp)(i:Nat)(hi:i<(els sp.so).length)(hs:(els sp.so).length<4611686018427387904)(d:D)(rest:List (List D)):
    post (fun o e H=>o= .exit 2∧H=⟨sp.cl.map .p::rest,[]⟩∧e.get 1= .box 0 0∧e.get 3=d∧e.get 4= .p (.int .i64 ((i:Nat):Int))∧∃b:Bool,e.get 5= .p (.bool b))
     (eu (call pg) pg.G [1,3,4,5,6] (bd gS 1) ⟨[(1,.box 0 0),(3,d),(4,.p (.int .i64 ((i:Nat):Int))),(5,.p (.bool false)),(6,.p (.int .i64 0))],⟨sp.cl.map .p::rest,[]⟩⟩):=by
 refine eY (c:=call pg) (G:=pg.G) (keep:=[1,3,4,5,6]) (b:=bd gS 1) (σ:=Nat×Bool) (fun s=>[(1,.box 0 0),(3,d),(4,.p (.int .i64 ((i:Nat):Int))),(5,.p (.bool s.2)),(6,.p (.int .i64 ((s.1:Nat):Int)))]) (fun _=>⟨sp.cl.map .p::rest,[]⟩) (fun s=>i-s.1) (fun s=>s.1≤i) _ ?_ (0,false) (b9 _);rintro⟨j,b⟩ hj;dsimp only at hj⊢;by_cases h:j<i
 ·have ha:=N2 (s:=sp.so) hi;have hb:=N2 (s:=sp.so) (k:=j) (by omega);have k1:=bw (k:=j) (by omega);generalize (els sp.so)[i]=u at *;generalize (els sp.so)[j]'(by omega)=v at *;obtain⟨b',cb⟩:∃b':Bool,b'=(b||decide (v.nm=u.nm)):=⟨_,rfl⟩;refine aX (Q:=nx [1,3,4,5,6] [(1,.box 0 0),(3,d),(4,.p (.int .i64 ((i:Nat):Int))),(5,.p (.bool b')),(6,.p (.int .i64 ((j+1 :Nat):Int)))] ⟨sp.cl.map .p::rest,[]⟩) ?_ fun o e H hh=>.inl ⟨(j+1,b'),by dsimp only;omega,by dsimp only;omega,hh⟩;subst cb
  conv in bd gS 1=>reduce
  cases b with
  |true=>simp[h,k1]
  |false=>
   by_cases hc:v.nm=u.nm
   ·simp[h,ha,hb,k1,hc]
   ·simp[h,ha,hb,k1,hc]
 ·have :j=i:=by omega
  subst this;refine aX (Q:=fun o e H=>o= .exit 2∧H=⟨sp.cl.map .p::rest,[]⟩∧e.get 1= .box 0 0∧e.get 3=d∧e.get 4= .p (.int .i64 ((j:Nat):Int))∧e.get 5= .p (.bool b)) ?_ ?_
  ·skip
   conv in bd gS 1=>reduce
   simp
  ·rintro o e H ⟨rfl,q1,q2,q3,q4,q5⟩;exact .inr ⟨by simp,rfl,q1,q2,q3,q4,b,q5⟩
theorem Fg{H:Hp}{e sz:Nat}{es:List PD}:ow H sz (.cI e sz es)=some (es.length,(es.flatMap PD.cells).map .p):=by simp[ow,eF,D.iR]
theorem aic(sp:Sp)(ok:∀f∈els sp.fi,mo (els sp.so).length (els f.so))(i:Nat)(hi:i<(els sp.fi).length)(hs:(els sp.fi).length<4611686018427387904)(d:D)(rest:List (List D)):
    post (fun o e H=>o= .exit 6∧H=⟨sp.cl.map .p::rest,[]⟩∧e.get 1= .box 0 0∧e.get 3=d∧e.get 7= .p (.int .i64 ((i:Nat):Int))∧∃b:Bool,e.get 8= .p (.bool b))
     (eu (call pg) pg.G [1,3,7,8,9] (bd gS 3) ⟨[(1,.box 0 0),(3,d),(7,.p (.int .i64 ((i:Nat):Int))),(8,.p (.bool false)),(9,.p (.int .i64 0))],⟨sp.cl.map .p::rest,[]⟩⟩):=by
 refine eY (c:=call pg) (G:=pg.G) (keep:=[1,3,7,8,9]) (b:=bd gS 3) (σ:=Nat×Bool) (fun s=>[(1,.box 0 0),(3,d),(7,.p (.int .i64 ((i:Nat):Int))),(8,.p (.bool s.2)),(9,.p (.int .i64 ((s.1:Nat):Int)))]) (fun _=>⟨sp.cl.map .p::rest,[]⟩) (fun s=>i-s.1) (fun s=>s.1≤i) _ ?_ (0,false) (b9 _);rintro⟨j,b⟩ hj;dsimp only at hj⊢;by_cases h:j<i
 ·have ha:=lR (s:=sp.fi) hi;have hb:=lR (s:=sp.fi) (k:=j) (by omega);have k1:=bw (k:=j) (by omega);have hf3:=(ok _ (bO (h:=(by omega:j<(els sp.fi).length)))).2.2;obtain⟨r,hr⟩:=aia ((els sp.fi)[j]'(by omega)).so (els sp.fi)[i].so (by omega);clear hf3;generalize (els sp.fi)[i]=u at *;generalize (els sp.fi)[j]'(by omega)=v at *;obtain⟨b',cb⟩:∃b':Bool,b'=(b||(decide (v.nm=u.nm)&&r)):=⟨_,rfl⟩;refine aX (Q:=nx [1,3,7,8,9] [(1,.box 0 0),(3,d),(7,.p (.int .i64 ((i:Nat):Int))),(8,.p (.bool b')),(9,.p (.int .i64 ((j+1 :Nat):Int)))] ⟨sp.cl.map .p::rest,[]⟩) ?_ fun o e H hh=>.inl ⟨(j+1,b'),by dsimp only;omega,by dsimp only;omega,hh⟩;subst cb
  conv in bd gS 3=>reduce
  cases b with
  |true=>simp[h,k1]
  |false=>
   by_cases hc:v.nm=u.nm
   ·simp[h,ha,hb,k1,hc,hr]
   ·simp[h,ha,hb,k1,hc]
 ·have :j=i:=by omega
  subst this;refine aX (Q:=fun o e H=>o= .exit 6∧H=⟨sp.cl.map .p::rest,[]⟩∧e.get 1= .box 0 0∧e.get 3=d∧e.get 7= .p (.int .i64 ((j:Nat):Int))∧e.get 8= .p (.bool b)) ?_ ?_
  ·skip
   conv in bd gS 3=>reduce
   simp
  ·rintro o e H ⟨rfl,q1,q2,q3,q4,q5⟩;exact .inr ⟨by simp,rfl,q1,q2,q3,q4,b,q5⟩
theorem aie(sp:Sp)(hs:(els sp.so).length≤4):
    post (fun o e H=>o= .exit 0∧e.get 1= .box 0 0∧∃(n:Nat) (d:D) (rest:List (List D)),e.get 3=d∧H=⟨sp.cl.map .p::rest,[]⟩∧Rw 0 n d rest∧n≤4)
     (eu (call pg) pg.G [1,3,4] (bd gS 0) ⟨[(1,.box 0 0),(3,.p .aI),(4,.p (.int .i64 0))],⟨[sp.cl.map .p],[]⟩⟩):=by
 refine eY (c:=call pg) (G:=pg.G) (keep:=[1,3,4]) (b:=bd gS 0) (σ:=Nat×Nat×D×List (List D)) (fun s=>[(1,.box 0 0),(3,s.2.2.1),(4,.p (.int .i64 ((s.1:Nat):Int)))]) (fun s=>⟨sp.cl.map .p::s.2.2.2,[]⟩) (fun s=>(els sp.so).length-s.1) (fun s=>s.1≤(els sp.so).length∧s.2.1≤s.1∧Rw 0 s.2.1 s.2.2.1 s.2.2.2) _ ?_ (0,0,.p .aI,[]) ⟨b9 _,aV _,aV _,fun _ h=>by simp at h,.inl ⟨rfl,rfl⟩⟩;rintro⟨i,n,d,rest⟩ ⟨hi,hn,hR⟩;dsimp only at hi hn hR⊢;by_cases h:i<(els sp.so).length
 ·obtain⟨o,e,H,hx,rfl,rfl,q1,q3,q4,b,q5⟩:=bJ (aib sp i h (by omega) d rest);have k1:=bw (k:=i) (by omega);simp at hx;cases b with
  |false=>
   refine aX (Q:=nx [1,3,4] [(1,.box 0 0),(3,d),(4,.p (.int .i64 ((i+1 :Nat):Int)))] ⟨sp.cl.map .p::rest,[]⟩) ?_ fun o e H hh=>.inl ⟨(i+1,n,d,rest),⟨by dsimp only;omega,by dsimp only;omega,hR⟩,by dsimp only;omega,hh⟩;have ai:=rf (bd gS 1)
   conv at ai=>rhs;reduce
   have ae:=rf (bd gS 0)
   conv at ae=>rhs;reduce
   rw[←ai] at ae;rw[ae];clear ae ai;simp[gT,h,hx,q1,q3,q4,q5,k1]
  |true=>
   obtain⟨d',gw,cG,mA⟩:=Ju hR (by omega) (sp.cl.map .p) [] (.int .i64 41) (.int .i64 0);refine aX (Q:=nx [1,3,4] [(1,.box 0 0),(3,d'),(4,.p (.int .i64 ((i+1 :Nat):Int)))] ⟨sp.cl.map .p::gw,[]⟩) ?_ fun o e H hh=>.inl ⟨(i+1,n+1,d',gw),⟨by dsimp only;omega,by dsimp only;omega,mA⟩,by dsimp only;omega,hh⟩;simp at cG;clear hR mA;have ai:=rf (bd gS 1)
   conv at ai=>rhs;reduce
   have ae:=rf (bd gS 0)
   conv at ae=>rhs;reduce
   rw[←ai] at ae;rw[ae];clear ae ai;simp[gT,h,hx,q1,q3,q4,q5,k1,Fg,cG]
 ·have :i=(els sp.so).length:=by omega
  subst this;refine aX (Q:=fun o e H=>o= .exit 0∧e.get 1= .box 0 0∧e.get 3=d∧H=⟨sp.cl.map .p::rest,[]⟩) ?_ ?_
  ·have ai:=rf (bd gS 1)
   conv at ai=>rhs;reduce
   have ae:=rf (bd gS 0)
   conv at ae=>rhs;reduce
   rw[←ai] at ae;rw[ae];clear ae ai;simp[gT]
  ·rintro o e H ⟨rfl,q1,q3,rfl⟩;exact .inr ⟨by simp,rfl,q1,n,d,rest,q3,rfl,hR,by omega⟩
theorem aif(sp:Sp)(ok:∀f∈els sp.fi,mo (els sp.so).length (els f.so))(hs:(els sp.fi).length≤6)(n0:Nat)(js:n0≤4)(d0:D)(qy:List (List D))(jI:Rw 0 n0 d0 qy):
    post (fun o e H=>o= .exit 4∧e.get 1= .box 0 0∧∃(n:Nat) (d:D) (rest:List (List D)),e.get 3=d∧H=⟨sp.cl.map .p::rest,[]⟩∧Rw 0 n d rest∧n≤10)
     (eu (call pg) pg.G [1,3,7] (bd gS 2) ⟨[(1,.box 0 0),(3,d0),(7,.p (.int .i64 0))],⟨sp.cl.map .p::qy,[]⟩⟩):=by
 refine eY (c:=call pg) (G:=pg.G) (keep:=[1,3,7]) (b:=bd gS 2) (σ:=Nat×Nat×D×List (List D)) (fun s=>[(1,.box 0 0),(3,s.2.2.1),(7,.p (.int .i64 ((s.1:Nat):Int)))]) (fun s=>⟨sp.cl.map .p::s.2.2.2,[]⟩) (fun s=>(els sp.fi).length-s.1) (fun s=>s.1≤(els sp.fi).length∧s.2.1≤4+s.1∧Rw 0 s.2.1 s.2.2.1 s.2.2.2) _ ?_ (0,n0,d0,qy) ⟨b9 _,by dsimp only;omega,jI⟩;rintro⟨i,n,d,rest⟩ ⟨hi,hn,hR⟩;dsimp only at hi hn hR⊢;clear jI;by_cases h:i<(els sp.fi).length
 ·obtain⟨o,e,H,hx,rfl,rfl,q1,q3,q4,b,q5⟩:=bJ (aic sp ok i h (by omega) d rest);have k1:=bw (k:=i) (by omega);simp at hx;cases b with
  |false=>
   refine aX (Q:=nx [1,3,7] [(1,.box 0 0),(3,d),(7,.p (.int .i64 ((i+1 :Nat):Int)))] ⟨sp.cl.map .p::rest,[]⟩) ?_ fun o e H hh=>.inl ⟨(i+1,n,d,rest),⟨by dsimp only;omega,by dsimp only;omega,hR⟩,by dsimp only;omega,hh⟩;have dW:=rf (bd gS 3)
   conv at dW=>rhs;reduce
   have aC:=rf (bd gS 2)
   conv at aC=>rhs;reduce
   rw[←dW] at aC;rw[aC];clear aC dW;simp[dg,h,hx,q1,q3,q4,q5,k1]
  |true=>
   obtain⟨d',gw,cG,mA⟩:=Ju hR (by omega) (sp.cl.map .p) [] (.int .i64 41) (.int .i64 0);refine aX (Q:=nx [1,3,7] [(1,.box 0 0),(3,d'),(7,.p (.int .i64 ((i+1 :Nat):Int)))] ⟨sp.cl.map .p::gw,[]⟩) ?_ fun o e H hh=>.inl ⟨(i+1,n+1,d',gw),⟨by dsimp only;omega,by dsimp only;omega,mA⟩,by dsimp only;omega,hh⟩;simp at cG;clear hR mA;have dW:=rf (bd gS 3)
   conv at dW=>rhs;reduce
   have aC:=rf (bd gS 2)
   conv at aC=>rhs;reduce
   rw[←dW] at aC;rw[aC];clear aC dW;simp[dg,h,hx,q1,q3,q4,q5,k1,Fg,cG]
 ·have :i=(els sp.fi).length:=by omega
  subst this;refine aX (Q:=fun o e H=>o= .exit 4∧e.get 1= .box 0 0∧e.get 3=d∧H=⟨sp.cl.map .p::rest,[]⟩) ?_ ?_
  ·have dW:=rf (bd gS 3)
   conv at dW=>rhs;reduce
   have aC:=rf (bd gS 2)
   conv at aC=>rhs;reduce
   rw[←dW] at aC;rw[aC];clear aC dW;simp[dg]
  ·rintro o e H ⟨rfl,q1,q3,rfl⟩;exact .inr ⟨by simp,rfl,q1,n,d,rest,q3,rfl,hR,by omega⟩
theorem aih{f g:Nat→Option Nat}:∀ys:List PD,D.ba f g (ys.map D.p)=some (ys.map D.p):=iM f g
theorem V1{f g:Nat→Option Nat}:∀rest:List (List D),(∀cs∈rest,∃ys:List PD,cs=ys.map D.p)→aP (D.ba f g) rest=some rest
 |[],_=>rfl
 |cs::r,h=>by
  obtain⟨ys,rfl⟩:=h cs pa;simp only[aP,aih,V1 r fun c hc=>h c (jD _ hc)];rfl
theorem aii(sp:Sp)(ok:nj sp)(b0:List D):∃(n:Nat) (d:D) (rest:List (List D)),Rw 1 n d rest∧n≤10∧av (call pg) 97 [.p (.agg sp.cl)] ⟨[b0],[]⟩=some (.val d,⟨b0::rest,[]⟩):=by
 obtain⟨o1,e1,H1,Fh,rfl,q1,n1,d1,sP,q3,rfl,vH,iJ⟩:=bJ (aie sp ok.ns);obtain⟨o2,e2,H2,qY,rfl,p1,n,d,rest,p3,rfl,hR,hn⟩:=bJ (aif sp ok.fd ok.nf n1 iJ d1 sP vH);clear vH;have cM:call pg 97 [.p (.agg sp.cl)] ⟨[],[]⟩=some (.val d,⟨sp.cl.map .p::rest,[]⟩):=by
  simp at Fh qY;have dW:=rf (bd gS 3)
  conv at dW=>rhs;reduce
  have aC:=rf (bd gS 2)
  conv at aC=>rhs;reduce
  rw[←dW] at aC;have ai:=rf (bd gS 1)
  conv at ai=>rhs;reduce
  have ae:=rf (bd gS 0)
  conv at ae=>rhs;reduce
  rw[←ai] at ae;have hf:=rf gS
  conv at hf=>rhs;reduce
  rw[←dW] at hf;rw[←aC] at hf;rw[←ai] at hf;rw[←ae] at hf;refine Gl rfl hf rfl rfl ?_;clear hf ae ai aC dW;simp[Fh,qY,q1,q3,p3]
 obtain⟨hlen,cg,hc⟩:=hR;rcases hc with⟨rfl,rfl⟩ |⟨i,ys,rfl,hi,hy,js⟩
 ·refine⟨0,.p .aI,[],⟨by simp,fun _ h=>by simp at h,.inl ⟨rfl,rfl⟩⟩,by omega,?_⟩;simp[av,reach,ef,fX,ins,Vs.nodupB,D.aD,D.bz,D.refs,D.cJ,D.ba,D.ren,aP,cM,back,gM,bt.ren,cq]
 ·refine⟨n,.aB (i+1+1) 168 n 2,sp.cl.map .p::rest,⟨by simp;omega,fun cs ak=>?_,.inr ⟨i+1,ys,rfl,by simpa using hi,hy,js⟩⟩,hn,?_⟩
  ·rcases cN.1 ak with rfl |h
   ·exact⟨sp.cl,rfl⟩
   ·exact cg cs h
  ·simp[av,reach,ef,fX,ins,Vs.nodupB,D.aD,D.bz,D.refs,D.cJ,D.ba,D.ren,aP,cM,back,gM,bt.ren,cq,V1 rest cg];omega
def Rt(es:List PD)(d:D)(tk:List Nat):Prop:=
 (∀e∈es,∃a b:Int,e= .agg [.int .i64 a,.int .i64 b])∧((d= .p .aI∧es=[]∧tk=[])∨(d= .bk 0 168 2 es∧tk=[es.length]))
theorem Of{es:List PD}{d:D}{tk:List Nat}(h:Rt es d tk)(hn:es.length<1000)(bx:List (List D))(a b:Int):
    ∃d' zO,fj 168 2 16 d [.agg [.int .i64 a,.int .i64 b]] ⟨bx,tk⟩=some (d',⟨bx,zO⟩)∧Rt (es++[.agg [.int .i64 a,.int .i64 b]]) d' zO:=by
 have hr:roomy (es.length+1) 16=true:=by
  simp only[roomy,bQ,decide_eq_true_eq];omega
 have iC:roomy 1 16=true:=by decide
 obtain⟨cg,h⟩:=h;have EZ:∀e∈es++[PD.agg [.int .i64 a,.int .i64 b]],∃a b:Int,e= .agg [.int .i64 a,.int .i64 b]:=fun e he=>by
  rcases cW.1 he with h |h
  ·exact cg e h
  ·exact⟨a,b,by simpa using h⟩
 rcases h with⟨rfl,rfl,rfl⟩ |⟨rfl,rfl⟩
 ·exact⟨.bk 0 168 2 [.agg [.int .i64 a,.int .i64 b]],[1],by simp[fj,iC],EZ,.inr ⟨rfl,rfl⟩⟩
 ·exact⟨.bk 0 168 2 (es++[.agg [.int .i64 a,.int .i64 b]]),[es.length+1],by simp[fj,hr],EZ,.inr ⟨rfl,by simp⟩⟩
theorem aij(b0:List D)(ix:D)(ps:Sl Pm)(i:Nat)(hi:i<(els ps).length)(hs:(els ps).length<4611686018427387904)(d:D)(tk:List Nat):
    post (fun o e H=>o= .exit 2∧H=⟨[b0],tk⟩∧e.get 1=ix∧e.get 2= .box 0 0∧e.get 5=d∧e.get 6= .p (im ps)∧e.get 7= .p (.int .i64 ((i:Nat):Int))∧∃b:Bool,e.get 8= .p (.bool b))
     (eu (call pg) pg.G [1,2,5,6,7,8,9] (bd kN 1) ⟨[(1,ix),(2,.box 0 0),(5,d),(6,.p (im ps)),(7,.p (.int .i64 ((i:Nat):Int))),(8,.p (.bool false)),(9,.p (.int .i64 0))],⟨[b0],tk⟩⟩):=by
 refine eY (c:=call pg) (G:=pg.G) (keep:=[1,2,5,6,7,8,9]) (b:=bd kN 1) (σ:=Nat×Bool) (fun s=>[(1,ix),(2,.box 0 0),(5,d),(6,.p (im ps)),(7,.p (.int .i64 ((i:Nat):Int))),(8,.p (.bool s.2)),(9,.p (.int .i64 ((s.1:Nat):Int)))]) (fun _=>⟨[b0],tk⟩) (fun s=>i-s.1) (fun s=>s.1≤i) _ ?_ (0,false) (b9 _);rintro⟨j,b⟩ hj;dsimp only at hj⊢;by_cases h:j<i
 ·have ha:=EU (s:=ps) hi;have hb:=EU (s:=ps) (k:=j) (by omega);have k1:=bw (k:=j) (by omega);generalize (els ps)[i]=u at *;generalize (els ps)[j]'(by omega)=v at *;obtain⟨b',cb⟩:∃b':Bool,b'=(b||decide (v.nm=u.nm)):=⟨_,rfl⟩;refine aX (Q:=nx [1,2,5,6,7,8,9] [(1,ix),(2,.box 0 0),(5,d),(6,.p (im ps)),(7,.p (.int .i64 ((i:Nat):Int))),(8,.p (.bool b')),(9,.p (.int .i64 ((j+1 :Nat):Int)))] ⟨[b0],tk⟩) ?_ fun o e H hh=>.inl ⟨(j+1,b'),by dsimp only;omega,by dsimp only;omega,hh⟩;subst cb
  conv in bd kN 1=>reduce
  cases b with
  |true=>simp[h,k1]
  |false=>
   by_cases hc:v.nm=u.nm
   ·simp[h,ha,hb,k1,hc]
   ·simp[h,ha,hb,k1,hc]
 ·have :j=i:=by omega
  subst this;refine aX (Q:=fun o e H=>o= .exit 2∧H=⟨[b0],tk⟩∧e.get 1=ix∧e.get 2= .box 0 0∧e.get 5=d∧e.get 6= .p (im ps)∧e.get 7= .p (.int .i64 ((j:Nat):Int))∧e.get 8= .p (.bool b)) ?_ ?_
  ·skip
   conv in bd kN 1=>reduce
   simp
  ·rintro o e H ⟨rfl,q1,q2,q3,q4,q5,q6,q7⟩;exact .inr ⟨by simp,rfl,q1,q2,q3,q4,q5,q6,b,q7⟩
theorem aik(b0:List D)(ix:D)(ps:Sl Pm)(hs:(els ps).length≤8)(n0:Nat)(js:n0≤1)(d0:D)(Cn:List Nat)(Fj:List PD)(pw:Fj.length=n0)(jI:Rt Fj d0 Cn):
    post (fun o e H=>o= .exit 0∧e.get 1=ix∧e.get 2= .box 0 0∧e.get 6= .p (im ps)∧∃(es:List PD) (d:D) (tk:List Nat),e.get 5=d∧H=⟨[b0],tk⟩∧Rt es d tk∧es.length≤9)
     (eu (call pg) pg.G [1,2,5,6,7] (bd kN 0) ⟨[(1,ix),(2,.box 0 0),(5,d0),(6,.p (im ps)),(7,.p (.int .i64 0))],⟨[b0],Cn⟩⟩):=by
 refine eY (c:=call pg) (G:=pg.G) (keep:=[1,2,5,6,7]) (b:=bd kN 0) (σ:=Nat×List PD×D×List Nat) (fun s=>[(1,ix),(2,.box 0 0),(5,s.2.2.1),(6,.p (im ps)),(7,.p (.int .i64 ((s.1:Nat):Int)))]) (fun s=>⟨[b0],s.2.2.2⟩) (fun s=>(els ps).length-s.1) (fun s=>s.1≤(els ps).length∧s.2.1.length≤1+s.1∧Rt s.2.1 s.2.2.1 s.2.2.2) _ ?_ (0,Fj,d0,Cn) ⟨b9 _,by dsimp only;omega,jI⟩;rintro⟨i,es,d,tk⟩ ⟨hi,hn,hR⟩;dsimp only at hi hn hR⊢;clear jI;by_cases h:i<(els ps).length
 ·obtain⟨o,e,H,hx,rfl,rfl,q1,q2,q3,q4,q5,b,q6⟩:=bJ (aij b0 ix ps i h (by omega) d tk);have k1:=bw (k:=i) (by omega);cases b with
  |false=>
   refine aX (Q:=nx [1,2,5,6,7] [(1,ix),(2,.box 0 0),(5,d),(6,.p (im ps)),(7,.p (.int .i64 ((i+1 :Nat):Int)))] ⟨[b0],tk⟩) ?_ fun o e H hh=>.inl ⟨(i+1,es,d,tk),⟨by dsimp only;omega,by dsimp only;omega,hR⟩,by dsimp only;omega,hh⟩;have ai:=rf (bd kN 1)
   conv at ai=>rhs;reduce
   have ae:=rf (bd kN 0)
   conv at ae=>rhs;reduce
   rw[←ai] at ae;rw[ae];clear ae ai;simp[lh,h,hx,q1,q2,q3,q4,q5,q6,k1]
  |true=>
   obtain⟨d',zO,cG,mA⟩:=Of hR (by omega) [b0] 41 0;refine aX (Q:=nx [1,2,5,6,7] [(1,ix),(2,.box 0 0),(5,d'),(6,.p (im ps)),(7,.p (.int .i64 ((i+1 :Nat):Int)))] ⟨[b0],zO⟩) ?_ fun o e H hh=>.inl ⟨(i+1,es++[.agg [.int .i64 41,.int .i64 0]],d',zO),⟨by dsimp only;omega,by simp;omega,mA⟩,by dsimp only;omega,hh⟩;clear hR mA;have ai:=rf (bd kN 1)
   conv at ai=>rhs;reduce
   have ae:=rf (bd kN 0)
   conv at ae=>rhs;reduce
   rw[←ai] at ae;rw[ae];clear ae ai;simp[-fj,-eF,lh,h,hx,q1,q2,q3,q4,q5,q6,k1,zN,cG]
 ·have :i=(els ps).length:=by omega
  subst this;refine aX (Q:=fun o e H=>o= .exit 0∧e.get 1=ix∧e.get 2= .box 0 0∧e.get 6= .p (im ps)∧e.get 5=d∧H=⟨[b0],tk⟩) ?_ ?_
  ·have ai:=rf (bd kN 1)
   conv at ai=>rhs;reduce
   have ae:=rf (bd kN 0)
   conv at ae=>rhs;reduce
   rw[←ai] at ae;rw[ae];clear ae ai;simp[lh]
  ·rintro o e H ⟨rfl,q1,q2,q3,q4,rfl⟩;exact .inr ⟨by simp,rfl,q1,q2,q3,es,d,tk,q4,rfl,hR,by omega⟩
def Er(y:PD)(es:List PD):Prop:=(∀e∈es,∃a b:Int,e= .agg [.int .i64 a,.int .i64 b])∧((y= .aI∧es=[])∨y= .slice 2 es)
theorem ail(sp:Sp)(ok:nj sp)(hn:nY sp)(i:Nat)(hi:i<(els sp.pr).length):
    ∃(y:PD) (es:List PD),Er y es∧es.length≤10∧∀H,av (call pg) 98 [.p (.agg sp.cl),.p (.int .i64 ((i:Nat):Int))] H=some (.val (.p y),H):=by
 have cg:(els sp.pr).length<4611686018427387904:=by have:=ok.np;omega
 have aM:=EV hi;have hq:=ok.pd _ (bO hi);generalize (els sp.pr)[i]=q at *;obtain⟨p,c1,-⟩:=Jl sp cg i q.nm;obtain⟨er,pos,c2⟩:=V0 sp ok hn i q.ps (by have:=hq.1.1;omega) q.bo hq.2;have key:=fun n0 h0 d0 Cn Fj pw jI=>aik (sp.cl.map .p) (.p (.int .i64 ((i:Nat):Int))) q.ps hq.1.1 n0 h0 d0 Cn Fj pw jI;have fin:∀es y,Er y es→es.length≤10→post (gives true [.t 4] (.p y)) (ay (call pg) pg.G bf ((kN.map fun f=>f.body).getD .skip) ⟨entry 0 [.p (.agg sp.cl),.p (.int .i64 ((i:Nat):Int))],⟨[],[]⟩⟩)→
     ∃(y:PD) (es:List PD),Er y es∧es.length≤10∧∀H,av (call pg) 98 [.p (.agg sp.cl),.p (.int .i64 ((i:Nat):Int))] H=some (.val (.p y),H):=by
  intro es y h1 h2 hr;have ai:=rf (bd kN 1)
  conv at ai=>rhs;reduce
  have ae:=rf (bd kN 0)
  conv at ae=>rhs;reduce
  rw[←ai] at ae;have hf:=rf kN
  conv at hf=>rhs;reduce
  rw[←ai] at hf;rw[←ae] at hf;rw[hf] at hr;exact⟨y,es,h1,h2,aG (aa:=[_,_]) hf rfl rfl rfl hr⟩
 have ai:=rf (bd kN 1)
 conv at ai=>rhs;reduce
 have ae:=rf (bd kN 0)
 conv at ae=>rhs;reduce
 rw[←ai] at ae;have hf:=rf kN
 conv at hf=>rhs;reduce
 rw[←ai] at hf;rw[←ae] at hf;rw[hf] at fin;simp only[eA,kU] at fin;clear hf ae ai;clear hq;by_cases g:0≤p
 ·obtain⟨o,e,H,hx,rfl,q1,q2,q6,es,d,tk,q5,rfl,hR,hl⟩:=bJ (key 1 (by omega) (.bk 0 168 2 [.agg [.int .i64 41,.int .i64 0]]) [1] [.agg [.int .i64 41,.int .i64 0]] rfl ⟨fun e he=>⟨41,0,by simpa using he⟩,.inr ⟨rfl,rfl⟩⟩);clear key;simp at hx;have iC:roomy 1 16=true:=by decide
  by_cases e0:er=0
  ·subst e0;obtain⟨cg,hc⟩:=hR;rcases hc with⟨rfl,rfl,rfl⟩ |⟨rfl,rfl⟩
   ·refine fin [] .aI ⟨cg,.inl ⟨rfl,rfl⟩⟩ (by simp) ?_;clear fin;simp[aM,c1,c2,g,iC,hx,q1,q2,q5,q6]
   ·refine fin es (.slice 2 es) ⟨cg,.inr rfl⟩ (by omega) ?_;clear fin;simp[aM,c1,c2,g,iC,hx,q1,q2,q5,q6]
  ·obtain⟨d',zO,cG,cg,hc⟩:=Of hR (by omega) [sp.cl.map .p,[.p (.int .i64 er),.p (.int .i64 pos)]] er pos;simp[-fj] at cG;rcases hc with⟨_,h,_⟩ |⟨rfl,rfl⟩
   ·simp at h
   ·refine fin _ (.slice 2 (es++[.agg [.int .i64 er,.int .i64 pos]])) ⟨cg,.inr rfl⟩ (by simp;omega) ?_;clear fin;have nQ:fj 168 2 16 (.p .aI) [.agg [.int .i64 41,.int .i64 0]] ⟨[sp.cl.map .p],[]⟩=some (.bk 0 168 2 [.agg [.int .i64 41,.int .i64 0]],⟨[sp.cl.map .p],[1]⟩):=by simp[fj,iC]
    simp[-fj] at nQ;simp[-fj,aM,c1,c2,g,e0,hx,q1,q2,q5,q6,cG,nQ]
 ·obtain⟨o,e,H,hx,rfl,q1,q2,q6,es,d,tk,q5,rfl,hR,hl⟩:=bJ (key 0 (by omega) (.p .aI) [] [] rfl ⟨fun e he=>by simp at he,.inl ⟨rfl,rfl,rfl⟩⟩);clear key;simp at hx;by_cases e0:er=0
  ·subst e0;obtain⟨cg,hc⟩:=hR;rcases hc with⟨rfl,rfl,rfl⟩ |⟨rfl,rfl⟩
   ·refine fin [] .aI ⟨cg,.inl ⟨rfl,rfl⟩⟩ (by simp) ?_;clear fin;simp[aM,c1,c2,g,hx,q1,q2,q5,q6]
   ·refine fin es (.slice 2 es) ⟨cg,.inr rfl⟩ (by omega) ?_;clear fin;simp[aM,c1,c2,g,hx,q1,q2,q5,q6]
  ·obtain⟨d',zO,cG,cg,hc⟩:=Of hR (by omega) [sp.cl.map .p,[.p (.int .i64 er),.p (.int .i64 pos)]] er pos;simp[-fj] at cG;rcases hc with⟨_,h,_⟩ |⟨rfl,rfl⟩
   ·simp at h
   ·refine fin _ (.slice 2 (es++[.agg [.int .i64 er,.int .i64 pos]])) ⟨cg,.inr rfl⟩ (by simp;omega) ?_;clear fin;simp[-fj,aM,c1,c2,g,e0,hx,q1,q2,q5,q6,cG]
theorem aim{c n m:Nat}{d:D}{rest:List (List D)}(h:Rw c n d rest)(hn:n+m<1000)(b0:List D)(k:List Nat)(xs:List PD)(hx:xs.length=m*2):
    ∃d' gw,gL 168 2 16 d m (xs.map D.p) ⟨b0::rest,k⟩=some (d',⟨b0::gw,k⟩)∧Rw c (n+m) d' gw:=by
 by_cases hm:m=0
 ·subst hm;refine⟨d,rest,?_,h⟩;obtain⟨_,_,h⟩:=h;rcases h with⟨rfl,rfl⟩ |⟨i,ys,rfl,hi,hy,js⟩
  ·simp[gL,mK]
  ·simp[gL]
 have iC:roomy m 16=true:=by
  simp only[roomy,bQ,decide_eq_true_eq];omega
 have hr:roomy (n+m) 16=true:=by
  simp only[roomy,bQ,decide_eq_true_eq];omega
 obtain⟨hlen,cg,h⟩:=h;rcases h with⟨rfl,rfl⟩ |⟨i,ys,rfl,hi,hy,js⟩
 ·refine⟨.aB (rest.length+1) 168 m 2,rest++[xs.map D.p],?_,by simp;omega,fun cs ak=>?_,.inr ⟨rest.length,xs,by simp,by simp,by omega,by omega⟩⟩
  ·simp[gL,mK,iC,hm]
  ·rcases cW.1 ak with h |h
   ·exact cg cs h
   ·exact⟨xs,by simpa using h⟩
 ·have fC:i<rest.length:=(az.1 hi).1;refine⟨.aB (rest.length+1) 168 (n+m) 2,rest.set i []++[(ys++xs).map D.p],?_,by simp;omega,fun cs ak=>?_,.inr ⟨rest.length,ys++xs,rfl,?_,by simp[hy,hx];omega,by omega⟩⟩
  ·have h2:¬(n+m)*2≤n*2:=by omega
   have h3:ys≠[]:=fun e=>by rw[e] at hy;simp at hy;omega
   have h4:rI (n*2) (ys.map D.p)=ys.map D.p:=jC (by simp[hy]);have h5:rI (n*2) ys=ys:=jC (by simp[hy]);simp[gL,hi,hy,h2,h3,hr,h4,hm]
  ·rcases cW.1 ak with h |h
   ·rcases Kd h with h |rfl
    ·exact cg cs h
    ·exact⟨[],rfl⟩
   ·exact⟨ys++xs,by simpa using h⟩
  ·simp
theorem wA:∀es:List PD,(∀e∈es,∃a b:Int,e= .agg [.int .i64 a,.int .i64 b])→(es.flatMap PD.cells).length=es.length*2
 |[],_=>rfl
 |e::es,h=>by
  obtain⟨a,b,rfl⟩:=h e pa;have:=wA es fun e he=>h e (jD _ he);simp only[ub,iq,this,tL,dZ,fW];omega
theorem ain{y:PD}{es:List PD}(h:Er y es):∃xs:List PD,xs.length=es.length*2∧∀H,ow H 2 (.p y)=some (es.length,xs.map D.p):=by
 obtain⟨cg,h⟩:=h;rcases h with⟨rfl,rfl⟩ |rfl
 ·exact⟨[],rfl,fun H=>by simp[ow,eF]⟩
 ·exact⟨es.flatMap PD.cells,wA es cg,fun H=>by simp[ow,eF,D.iR]⟩
theorem aio(sp:Sp)(ok:nj sp)(hn:nY sp)(n0:Nat)(js:n0≤10)(d0:D)(qy:List (List D))(jI:Rw 1 n0 d0 qy):
    post (fun o e H=>o= .exit 0∧e.get 1= .box 0 0∧∃(n:Nat) (d:D) (rest:List (List D)),e.get 3=d∧H=⟨sp.cl.map .p::rest,[]⟩∧Rw 1 n d rest∧n≤90)
     (eu (call pg) pg.G [1,3,4] (bd kM 0) ⟨[(1,.box 0 0),(3,d0),(4,.p (.int .i64 0))],⟨sp.cl.map .p::qy,[]⟩⟩):=by
 have cg:=ok.np;refine eY (c:=call pg) (G:=pg.G) (keep:=[1,3,4]) (b:=bd kM 0) (σ:=Nat×Nat×D×List (List D)) (fun s=>[(1,.box 0 0),(3,s.2.2.1),(4,.p (.int .i64 ((s.1:Nat):Int)))]) (fun s=>⟨sp.cl.map .p::s.2.2.2,[]⟩) (fun s=>(els sp.pr).length-s.1) (fun s=>s.1≤(els sp.pr).length∧s.2.1≤10+10*s.1∧Rw 1 s.2.1 s.2.2.1 s.2.2.2) _ ?_ (0,n0,d0,qy) ⟨b9 _,by dsimp only;omega,jI⟩;rintro⟨i,n,d,rest⟩ ⟨hi,cO,hR⟩;dsimp only at hi cO hR⊢;clear jI;by_cases h:i<(els sp.pr).length
 ·obtain⟨y,es,hE,hl,hc⟩:=ail sp ok hn i h;obtain⟨xs,oP,rD⟩:=ain hE;have k1:=bw (k:=i) (by omega);obtain⟨d',gw,cG,mA⟩:=aim hR (by omega) (sp.cl.map .p) [] xs oP;refine aX (Q:=nx [1,3,4] [(1,.box 0 0),(3,d'),(4,.p (.int .i64 ((i+1 :Nat):Int)))] ⟨sp.cl.map .p::gw,[]⟩) ?_ fun o e H hh=>.inl ⟨(i+1,n+es.length,d',gw),⟨by dsimp only;omega,by dsimp only;omega,mA⟩,by dsimp only;omega,hh⟩;simp only[dA,mF] at cG;clear hR mA hE;generalize xs.map D.p=ys at *
  conv in bd kM 0=>reduce
  simp[-eF,lj,h,hc,k1,rD,cG]
 ·have :i=(els sp.pr).length:=by omega
  subst this;refine aX (Q:=fun o e H=>o= .exit 0∧e.get 1= .box 0 0∧e.get 3=d∧H=⟨sp.cl.map .p::rest,[]⟩) ?_ ?_
  ·skip
   conv in bd kM 0=>reduce
   simp[lj]
  ·rintro o e H ⟨rfl,q1,q3,rfl⟩;exact .inr ⟨by simp,rfl,q1,n,d,rest,q3,rfl,hR,by omega⟩
theorem aip(sp:Sp)(i:Nat)(hi:i<(els sp.fa).length)(hs:(els sp.fa).length<4611686018427387904)(d:D)(rest:List (List D)):
    post (fun o e H=>o= .exit 4∧H=⟨sp.cl.map .p::rest,[]⟩∧e.get 1= .box 0 0∧e.get 3=d∧e.get 5= .p (.int .i64 ((i:Nat):Int))∧∃b:Bool,e.get 6= .p (.bool b))
     (eu (call pg) pg.G [1,3,5,6,7] (bd kM 2) ⟨[(1,.box 0 0),(3,d),(5,.p (.int .i64 ((i:Nat):Int))),(6,.p (.bool false)),(7,.p (.int .i64 0))],⟨sp.cl.map .p::rest,[]⟩⟩):=by
 refine eY (c:=call pg) (G:=pg.G) (keep:=[1,3,5,6,7]) (b:=bd kM 2) (σ:=Nat×Bool) (fun s=>[(1,.box 0 0),(3,d),(5,.p (.int .i64 ((i:Nat):Int))),(6,.p (.bool s.2)),(7,.p (.int .i64 ((s.1:Nat):Int)))]) (fun _=>⟨sp.cl.map .p::rest,[]⟩) (fun s=>i-s.1) (fun s=>s.1≤i) _ ?_ (0,false) (b9 _);rintro⟨j,b⟩ hj;dsimp only at hj⊢;by_cases h:j<i
 ·have ha:=Jf (s:=sp.fa) hi;have hb:=Jf (s:=sp.fa) (k:=j) (by omega);have k1:=bw (k:=j) (by omega);generalize (els sp.fa)[i]=u at *;generalize (els sp.fa)[j]'(by omega)=v at *;obtain⟨b',cb⟩:∃b':Bool,b'=(b||decide (v.nm=u.nm)):=⟨_,rfl⟩;refine aX (Q:=nx [1,3,5,6,7] [(1,.box 0 0),(3,d),(5,.p (.int .i64 ((i:Nat):Int))),(6,.p (.bool b')),(7,.p (.int .i64 ((j+1 :Nat):Int)))] ⟨sp.cl.map .p::rest,[]⟩) ?_ fun o e H hh=>.inl ⟨(j+1,b'),by dsimp only;omega,by dsimp only;omega,hh⟩;subst cb
  conv in bd kM 2=>reduce
  cases b with
  |true=>simp[h,k1]
  |false=>
   by_cases hc:v.nm=u.nm
   ·simp[h,ha,hb,k1,hc]
   ·simp[h,ha,hb,k1,hc]
 ·have :j=i:=by omega
  subst this;refine aX (Q:=fun o e H=>o= .exit 4∧H=⟨sp.cl.map .p::rest,[]⟩∧e.get 1= .box 0 0∧e.get 3=d∧e.get 5= .p (.int .i64 ((j:Nat):Int))∧e.get 6= .p (.bool b)) ?_ ?_
  ·skip
   conv in bd kM 2=>reduce
   simp
  ·rintro o e H ⟨rfl,q1,q2,q3,q4,q5⟩;exact .inr ⟨by simp,rfl,q1,q2,q3,q4,b,q5⟩
theorem aiq{c n:Nat}{d:D}{rest:List (List D)}(h:Rw c n d rest)(xs:List PD):Rw (c+1) n d (rest++[xs.map D.p]):=by
 obtain⟨hlen,cg,h⟩:=h;refine⟨by simp;omega,fun cs ak=>?_,?_⟩
 ·rcases cW.1 ak with h |h
  ·exact cg cs h
  ·exact⟨xs,by simpa using h⟩
 ·rcases h with h |⟨i,ys,rfl,hi,hy,js⟩
  ·exact .inl h
  ·exact .inr ⟨i,ys,rfl,by rw[cH (az.1 hi).1];exact hi,hy,js⟩
theorem Jv(b:Nat×Nat):eP (0,0) b=false:=by simp[eP]
theorem Jw(a:Nat×Nat):eP a (0,0)=false:=by simp[eP]
theorem Jx:eP (3,0) (3,0)=false:=by decide
theorem air{n:Nat}(h:n+1<2000000000):eP (3,0) (4+2*(n+1),0)=false:=by
 have h1:bq (4+2*(n+1))=true:=by
  simp only[bq,o0,bQ,decide_eq_true_eq,beq_iff_eq];omega
 have h2:kC 3 (4+2*(n+1))=true:=by
  have e1:(4+2*(n+1)-4)/2=n+1:=by omega
  have e2:(4+2*(n+1))%2=0:=by omega
  simp[kC,e2,nD,h]
 simp[-kC,eP,h2]
theorem ap0{α:Type}(l:List α)(x y:α):(l++[x]).set l.length y=l++[y]:=by simp
theorem ais(sp:Sp)(ok:nj sp)(hn:nY sp)(n0:Nat)(js:n0≤90)(d0:D)(qy:List (List D))(jI:Rw 1 n0 d0 qy):
    post (fun o e H=>o= .exit 2∧∃(c n:Nat) (d:D) (rest:List (List D)),e.get 3=d∧H=⟨sp.cl.map .p::rest,[]⟩∧Rw c n d rest∧n≤200)
     (eu (call pg) pg.G [1,3,5] (bd kM 1) ⟨[(1,.box 0 0),(3,d0),(5,.p (.int .i64 0))],⟨sp.cl.map .p::qy,[]⟩⟩):=by
 have cg:=ok.na;refine eY (c:=call pg) (G:=pg.G) (keep:=[1,3,5]) (b:=bd kM 1) (σ:=Nat×Nat×D×List (List D)) (fun s=>[(1,.box 0 0),(3,s.2.2.1),(5,.p (.int .i64 ((s.1:Nat):Int)))]) (fun s=>⟨sp.cl.map .p::s.2.2.2,[]⟩) (fun s=>(els sp.fa).length-s.1) (fun s=>s.1≤(els sp.fa).length∧s.2.1≤90+2*s.1∧Rw (1+s.1) s.2.1 s.2.2.1 s.2.2.2) _ ?_ (0,n0,d0,qy) ⟨b9 _,by dsimp only;omega,jI⟩;rintro⟨i,n,d,rest⟩ ⟨hi,cO,hR⟩;dsimp only at hi cO hR⊢;clear jI;by_cases h:i<(els sp.fa).length
 ·obtain⟨o,e,H,hx,rfl,rfl,q1,q3,q5,b,q6⟩:=bJ (aip sp i h (by omega) d rest);have aM:=Jf h;have hq:=ok.fc _ (bO h);obtain⟨er,pos,hc⟩:=ah9 sp ok hn .nil (by simp[els]) ((els sp.fa)[i]).bo hq;have oK:im .nil= .aI:=rfl;rw[oK] at hc;have k1:=bw (k:=i) (by omega);simp at hx;obtain⟨n1,d1,sP,iJ,vH,cC⟩:∃(n1:Nat) (d1:D) (sP:List (List D)),n1≤n+1∧Rw (1+i) n1 d1 sP∧((b=false∧d1=d∧sP=rest)∨(b=true∧gL 168 2 16 d 1 [.p (.int .i64 41),.p (.int .i64 0)] ⟨sp.cl.map .p::rest,[]⟩=some (d1,⟨sp.cl.map .p::sP,[]⟩))):=by
   cases b with
   |false=>exact⟨n,d,rest,by omega,hR,.inl ⟨rfl,rfl,rfl⟩⟩
   |true=>
    obtain⟨d',gw,cG,mA⟩:=Ju hR (by omega) (sp.cl.map .p) [] (.int .i64 41) (.int .i64 0);exact⟨n+1,d',gw,by omega,mA,.inr ⟨rfl,cG⟩⟩
  have hlen:sP.length+1<2000000000:=by have:=vH.1;omega
  have tI:=air hlen;have BG:=aiq vH [.int .i64 er,.int .i64 pos];generalize (els sp.fa)[i]=u at *;clear hq vH hR ok;by_cases e0:er=0
  ·refine aX (Q:=nx [1,3,5] [(1,.box 0 0),(3,d1),(5,.p (.int .i64 ((i+1 :Nat):Int)))] ⟨sp.cl.map .p::(sP++[[.p (.int .i64 er),.p (.int .i64 pos)]]),[]⟩) ?_ fun o e H hh=>.inl ⟨(i+1,n1,d1,sP++[[.p (.int .i64 er),.p (.int .i64 pos)]]),⟨by dsimp only;omega,by dsimp only;omega,by rw[←vQ];exact BG⟩,by dsimp only;omega,hh⟩;clear BG;have aC:=rf (bd kM 2)
   conv at aC=>rhs;reduce
   have ai:=rf (bd kM 1)
   conv at ai=>rhs;reduce
   rw[←aC] at ai;rw[ai];clear ai aC;rcases cC with⟨rfl,rfl,rfl⟩ |⟨rfl,cG⟩
   ·simp[-eP,qw,h,hx,q1,q3,q5,q6,k1,aM,hc,e0,Jv,Jw,Jx,tI]
   ·simp at cG;simp[-eP,qw,h,hx,q1,q3,q5,q6,k1,aM,hc,e0,Jv,Jw,Jx,tI,Fg,cG]
  ·obtain⟨d2,Og,Oh,IY⟩:=Ju BG (by omega) (sp.cl.map .p) [] (.int .i64 er) (.int .i64 pos);refine aX (Q:=nx [1,3,5] [(1,.box 0 0),(3,d2),(5,.p (.int .i64 ((i+1 :Nat):Int)))] ⟨sp.cl.map .p::Og,[]⟩) ?_ fun o e H hh=>.inl ⟨(i+1,n1+1,d2,Og),⟨by dsimp only;omega,by dsimp only;omega,by rw[←vQ];exact IY⟩,by dsimp only;omega,hh⟩;clear BG IY;simp at Oh;have aC:=rf (bd kM 2)
   conv at aC=>rhs;reduce
   have ai:=rf (bd kM 1)
   conv at ai=>rhs;reduce
   rw[←aC] at ai;rw[ai];clear ai aC;rcases cC with⟨rfl,rfl,rfl⟩ |⟨rfl,cG⟩
   ·simp[-eP,qw,h,hx,q1,q3,q5,q6,k1,aM,hc,e0,Jv,Jw,Jx,tI,Fg,Oh]
   ·simp at cG;simp[-eP,qw,h,hx,q1,q3,q5,q6,k1,aM,hc,e0,Jv,Jw,Jx,tI,Fg,cG,Oh]
 ·have :i=(els sp.fa).length:=by omega
  subst this;refine aX (Q:=fun o e H=>o= .exit 2∧e.get 3=d∧H=⟨sp.cl.map .p::rest,[]⟩) ?_ ?_
  ·have aC:=rf (bd kM 2)
   conv at aC=>rhs;reduce
   have ai:=rf (bd kM 1)
   conv at ai=>rhs;reduce
   rw[←aC] at ai;rw[ai];clear ai aC;simp[qw]
  ·rintro o e H ⟨rfl,q3,rfl⟩;exact .inr ⟨by simp,rfl,_,n,d,rest,q3,rfl,hR,by omega⟩
theorem V5(k:Nat)(H:Hp)(f i e n sz:Nat):D.aH k H (f+1) (.aB i e n sz)=if k≤i then(match H.bx[i]? with
      |some cs=>if aU cs=false∧0+n*sz≤cs.length∧0<sz then(match D.jn ((sub cs 0 (0+n*sz)).map (D.aH k H f)) with
       |some ps=>.p (.slice sz (chunks sz n ps))
       |none=>.aB i e n sz) else .aB i e n sz
      |none=>.aB i e n sz) else .aB i e n sz:=rfl
theorem ait{c n:Nat}{d:D}{b0:List D}{rest:List (List D)}(h:Rw c n d rest):∃y:PD,fin true d ⟨b0::rest,[]⟩ (.p y)∧∃k,fg 1 (.p y)=some k:=by
 obtain⟨_,_,h⟩:=h;rcases h with⟨rfl,rfl⟩ |⟨i,ys,rfl,hi,hy,js⟩
 ·refine⟨.aI,?_,0,rfl⟩;simp[fin,D.aH,D.ren]
 ·refine⟨.slice 2 (chunks 2 n ys),?_,_,wL _ _⟩;have h1:(ys.map D.p).map (D.aH 0 ⟨b0::rest,[]⟩ 7)=ys.map D.p:=by
   rw[uf];refine sV fun x _=>?_;simp[lQ]
  have h2:sub (ys.map D.p) 0 (0+n*2)=ys.map D.p:=by
   simp[sub,jC,hy]
  have h3:D.jn (ys.map D.p)=some ys:=by
   clear h1 h2 hi hy
   induction ys with
   |nil=>rfl
   |cons y ys ih=>simp[D.jn,D.eM,ih]
  have h4:(b0::rest)[i+1]? =some (ys.map D.p):=by simpa using hi
  have h5:D.aH 0 ⟨b0::rest,[]⟩ 8 (.aB (i+1) 168 n 2)= .p (.slice 2 (chunks 2 n ys)):=by
   rw[V5 0 _ 7,if_pos (b9 _)];simp only[h4,h2,h1,h3];rw[if_pos ⟨yP _,by simp[hy],by decide⟩]
  simp[fin,h5,D.ren]
theorem aiu(sp:Sp)(ok:nj sp)(hn:nY sp):∃(y:PD) (k:Nat),fg 1 (.p y)=some k∧∀H,av (call pg) 49 [.p (.agg sp.cl)] H=some (.val (.p y),H):=by
 obtain⟨n0,d0,qy,jI,js,hc⟩:=aii sp ok (sp.cl.map .p);obtain⟨o1,e1,H1,Fh,rfl,q1,n1,d1,sP,q3,rfl,vH,iJ⟩:=bJ (aio sp ok hn n0 js d0 qy jI);obtain⟨o2,e2,H2,qY,rfl,c,n,d,rest,p3,rfl,hR,ic⟩:=bJ (ais sp ok hn n1 iJ d1 sP vH);obtain⟨y,V6,k,hk⟩:=ait (b0:=sp.cl.map .p) hR;refine⟨y,k,hk,?_⟩;clear hR vH jI hk;simp at Fh qY hc V6;have aC:=rf (bd kM 2)
 conv at aC=>rhs;reduce
 have ai:=rf (bd kM 1)
 conv at ai=>rhs;reduce
 rw[←aC] at ai;have ae:=rf (bd kM 0)
 conv at ae=>rhs;reduce
 have hf:=rf kM
 conv at hf=>rhs;reduce
 rw[←aC] at hf;rw[←ai] at hf;rw[←ae] at hf;refine aG (aa:=[_]) hf rfl rfl rfl ?_;clear hf ae ai aC;simp[hc,Fh,qY,q1,q3,p3,V6]
theorem Oi(a:Sl Int)(st:Int){k:Nat}(hk:k≤(els a).length)(hl:(els a).length≤1000)(h:∀x∈els a,0≤x∧x≤5):
    ∀H,av (call pg) 154 [.p (.agg [af a,.int .i64 st]),.p (.int .i64 ((k:Nat):Int))] H=some (.val (.p (.int .i64 (((els a).take k).sum))),H):=by
 have ae:=rf (bd IE 0)
 conv at ae=>rhs;reduce
 have hf:=rf IE
 conv at hf=>rhs;reduce
 rw[←ae] at hf;have key:=jd (c:=call pg) (G:=pg.G) (keep:=[1,2,5,6]) (b:=bd IE 0) (fun i=>[(1,.p (.int .i64 ((k:Nat):Int))),(2,.box 0 0),(5,.p (.int .i64 (((els a).take i).sum))),(6,.p (.int .i64 ((i:Nat):Int)))]) (fun _=>⟨[[.p (af a),.p (.int .i64 st)]],[]⟩) k (fun _=>True)
  (fun o e H=>o= .exit 0∧e.get 5= .p (.int .i64 (((els a).take k).sum))) trivial ?_ ?_
 ·obtain⟨o,e,H,hx,rfl,h3⟩:=bJ key;refine aG (aa:=[_,_]) hf rfl rfl rfl ?_;clear hf ae;simp at hx;simp[hx,h3]
 ·intro i hi _;have bp:i<(els a).length:=by omega
  have hw:IntKind.i64.wrap (((els a).take i).sum+(els a)[i])=((els a).take i).sum+(els a)[i]:=by
   have:=I8 h (i+1);rw[sM bp] at this;exact wrap64 (by omega) (by omega)
  rw[ae];clear hf ae;simp[aR,cK bp,hi,bp,bw (k:=i) (by omega),sM bp,hw]
 ·intro _;rw[ae];clear hf ae;simp
theorem Oj(a:Sl Int)(st:Int)(hl:(els a).length≤1000)(h:∀x∈els a,0≤x∧x≤5):
    ∀H,av (call pg) 100 [.p (.agg [af a,.int .i64 st])] H=some (.val (.p (.int .i64 ((els a).sum))),H):=by
 have hf:=rf Ug
 conv at hf=>rhs;reduce
 have h1:=Oi a st (aV _) hl h;rw[oo] at h1;refine aG (aa:=[_]) hf rfl rfl rfl ?_;clear hf;simp[aR,h1]
theorem V7(a:Sl Int)(st:Int){k:Nat}(hk:k≤3)(hl:(els a).length≤1000)(h:∀x∈els a,0≤x∧x≤5){n:Nat}(hn:(els a).sum=n)(ic:n≤12):
    ∀H,av (call pg) 156 [.p (.agg [af a,.int .i64 st]),.p (.int .i64 ((k:Nat):Int))] H=some (.val (.p (.int .i64 ((n ^ k:Nat):Int))),H):=by
 have ae:=rf (bd IG 0)
 conv at ae=>rhs;reduce
 have hf:=rf IG
 conv at hf=>rhs;reduce
 rw[←ae] at hf;have eX:=Oj a st hl h;rw[hn] at eX;have key:=jd (c:=call pg) (G:=pg.G) (keep:=[1,2,5,6]) (b:=bd IG 0) (fun i=>[(1,.p (.int .i64 ((k:Nat):Int))),(2,.box 0 0),(5,.p (.int .i64 ((n ^ i:Nat):Int))),(6,.p (.int .i64 ((i:Nat):Int)))]) (fun _=>⟨[[.p (af a),.p (.int .i64 st)]],[]⟩) k (fun _=>True)
  (fun o e H=>o= .exit 0∧e.get 5= .p (.int .i64 ((n ^ k:Nat):Int))) trivial ?_ ?_
 ·obtain⟨o,e,H,hx,rfl,h3⟩:=bJ key;refine aG (aa:=[_,_]) hf rfl rfl rfl ?_;clear hf ae;simp at hx;simp[hx,h3]
 ·intro i hi _;rw[ae];clear hf ae;have h1:(i:Int)<3:=by omega
  have h2:IntKind.i64.wrap ((n:Int) ^ i*(n:Int))=(n:Int) ^ (i+1):=by
   have:=tO ic (i:=i+1) (by omega);rw[show(n:Int) ^ i*(n:Int)=((n ^ (i+1):Nat):Int) by rw[PL];simp,wrap64 (by omega) (by omega)];simp
  simp[hi,h1,h2,eX,bw (k:=i) (by omega)]
 ·intro _;rw[ae];clear hf ae;simp
theorem V8(a:Sl Int)(st x:Int)(hl:(els a).length≤1000)(h:∀x∈els a,0≤x∧x≤5)(hx:0≤x):
    ∀H,av (call pg) 225 [.p (.agg [af a,.int .i64 st]),.p (.int .i64 x)] H=some (.val (.p (.int .i64 (fl (els a) 0 x))),H):=by
 have ae:=rf (bd II 0)
 conv at ae=>rhs;reduce
 have hf:=rf II
 conv at hf=>rhs;reduce
 rw[←ae] at hf;have key:=jd (c:=call pg) (G:=pg.G) (keep:=[1,2,5]) (b:=bd II 0) (fun i=>[(1,.p (.int .i64 x)),(2,.box 0 0),(5,.p (.int .i64 ((i:Nat):Int)))]) (fun _=>⟨[[.p (af a),.p (.int .i64 st)]],[]⟩) (els a).length
  (fun i=>((els a).take i).sum≤x∧fl ((els a).drop i) i (x-((els a).take i).sum)=fl (els a) 0 x)
  (fun o e H=>H=⟨[[.p (af a),.p (.int .i64 st)]],[]⟩∧((o= .exit 0∧fl (els a) 0 x= -1)∨(o= .ret∧e.get 4= .p (.int .i64 (fl (els a) 0 x))))) (by simp[hx]) ?_ ?_
 ·obtain⟨o,e,H,hx,rfl,hq⟩:=bJ key;refine aG (aa:=[_,_]) hf rfl rfl rfl ?_;clear hf ae;simp at hx;rcases hq with⟨rfl,h3⟩ |⟨rfl,h3⟩
  ·simp[hx,h3]
  ·simp[hx,h3]
 ·intro i hi ⟨hJ,hI⟩;rw[FX hi] at hI;simp only[fl] at hI;have f1:=Oi a st (k:=i) (by omega) hl h;have f2:=Oi a st (k:=i+1) (by omega) hl h;have hs:=sM hi;have k1:=bw (k:=i) (by omega);have V9:∀H,av (call pg) 154 [.p (.agg [af a,.int .i64 st]),.p (.int .i64 ((i:Int)+1))] H=some (.val (.p (.int .i64 (((els a).take (i+1)).sum))),H):=f2;rw[ae];clear hf ae;by_cases hc:x<((els a).take (i+1)).sum
  ·rw[if_pos (by omega)] at hI;simp[aR,hi,f1,V9,hJ,hc,k1,←hI]
  ·rw[if_neg (by omega)] at hI;have zG:fl ((els a).drop (i+1)) ((i:Int)+1) (x-((els a).take (i+1)).sum)=fl (els a) 0 x:=by
    rw[←hI,sM hi];congr 1
    omega
   have vw:((els a).take (i+1)).sum≤x:=by omega
   simp[aR,hi,f1,V9,hJ,hc,k1,zG,vw]
 ·intro⟨_,hI⟩;rw[Kl (aV _)] at hI;simp only[fl] at hI;rw[ae];clear hf ae;simp[aR,←hI]
def kp(n:Int):Nat→Int→List Int
 | 0,_=>[]
 |k+1,r=>kp n k (r.tdiv n)++[r.tmod n]
theorem Wa(n:Int):∀(k:Nat) (r:Int),(kp n k r).length=k
 | 0,_=>rfl
 |k+1,r=>by simp[kp,Wa n k]
theorem Co{n r:Int}(c:List PD)(hc:c.length=3){j:Nat}(hj:j<3)(hn:1≤n)(hr:0≤r∧r≤4611686018427387904)(x0 _:List D)(ar:Int):
    post (nx [1,7,8,9,10] [(1,.p (.int .i64 ar)),(7,.bu 1 0 3 (some 3) 1),(8,.p (.int .i64 n)),(9,.p (.int .i64 (r.tdiv n))),(10,.p (.int .i64 ((j:Int)-1)))] ⟨[x0,(c.set j (.int .i64 (r.tmod n))).map .p],[]⟩)
     (ay (call pg) pg.G bf (bd wU 0) ⟨Env.keep [1,7,8,9,10] [(1,.p (.int .i64 ar)),(7,.bu 1 0 3 (some 3) 1),(8,.p (.int .i64 n)),(9,.p (.int .i64 r)),(10,.p (.int .i64 ((j:Nat):Int)))],⟨[x0,c.map .p],[]⟩⟩):=by
 conv in bd wU 0=>reduce
 have h1:¬n=0:=by omega
 have h2:IntKind.i64.wrap (r.tdiv n)=r.tdiv n:=by
  have:=Ja hn hr;exact wrap64 (by omega) (by omega)
 have h3:IntKind.i64.wrap ((j:Int)-1)=(j:Int)-1:=wrap64 (by omega) (by omega);obtain⟨c0,c1,c2,rfl⟩:∃c0 c1 c2,c=[c0,c1,c2]:=by
  match c,hc with
  |[c0,c1,c2],_=>exact⟨c0,c1,c2,rfl⟩
 have jS:j=0∨j=1∨j=2:=by omega
 rcases jS with rfl |rfl |rfl
 ·simp[eN,aU,h1,h2,wrap64]
 ·simp[eN,aU,h1,h2,wrap64]
 ·simp[eN,aU,h1,h2,wrap64]
theorem zP:∀l:List PD,D.jn (l.map .p)=some l
 |[]=>rfl
 |x::l=>by simp[D.jn,D.eM,zP l]
theorem Ol{i off n sz:Nat}{c:Option Nat}{H:Hp}{ps:List PD}(h:H.bx[i]? =some (ps.map .p))(hl:off+n*sz≤ps.length)(hs:0<sz):fin true (.bu i off n c sz) H (.p (.slice sz (chunks sz n (sub ps off (off+n*sz))))):=by
 have h1:(D.bu i off n c sz).aH 0 H 8= .p (.slice sz (chunks sz n (sub ps off (off+n*sz)))):=by
  have h2:(sub (ps.map D.p) off (off+n*sz)).map (D.aH 0 H 7)=(sub ps off (off+n*sz)).map .p:=by
   simp[sub,←Pu,←Pv,uf,lQ,Function.comp_def]
  unfold D.aH;simp only[b9,if_true,h,yP,cx,hl,hs,and_self,h2,zP]
 refine⟨.p (.slice sz (chunks sz n (sub ps off (off+n*sz)))),?_,rfl⟩;rw[if_pos rfl,h1];rfl
theorem aiv(a:Sl Int)(st:Int){k:Nat}(iK:1≤k)(hk:k≤3)(hl:(els a).length≤1000)(h:∀x∈els a,0≤x∧x≤5){n:Nat}(hn:(els a).sum=n)(iJ:1≤n)(ic:n≤12){r:Nat}(hr:r<n ^ k):
    ∀H,av (call pg) 157 [.p (.agg [af a,.int .i64 st]),.p (.int .i64 ((k:Nat):Int)),.p (.int .i64 ((r:Nat):Int))] H=some (.val (.p (af (.of (kp n k r)))),H):=by
 have eX:=Oj a st hl h;rw[hn] at eX;have Fm:=V7 a st hk hl h hn ic;have oU:=tO ic hk;have g1:¬((k:Int)<0):=by omega
 have g2:¬((3 :Int)<(k:Int)):=by omega
 have g3:¬(n:Int) ^ k≤(r:Int):=by rw[←CT];omega
 have g5:¬(r:Int)<0:=by omega
 have g4:IntKind.i64.wrap ((k:Int)-1)=(k:Int)-1:=wrap64 (by omega) (by omega);have last:∀(c0 c1 c2:Int) (q:Int),af (.of (kp n k r))= .slice 1 (([c0,c1,c2].map (PD.int .i64)).take k)→
     post (fun o e H=>o= .exit 0∧e.get 1= .p (.int .i64 ((k:Nat):Int))∧e.get 7= .bu 1 0 3 (some 3) 1∧H=⟨[[.p (af a),.p (.int .i64 st)],([c0,c1,c2].map (PD.int .i64)).map .p],[]⟩) (eu (call pg) pg.G [1,7,8,9,10] (bd wU 0) ⟨[(1,.p (.int .i64 ((k:Nat):Int))),(7,.bu 1 0 3 (some 3) 1),(8,.p (.int .i64 ((n:Nat):Int))),(9,.p (.int .i64 q)),(10,.p (.int .i64 (-1)))],⟨[[.p (af a),.p (.int .i64 st)],([c0,c1,c2].map (PD.int .i64)).map .p],[]⟩⟩):=by
  intro c0 c1 c2 q _;refine agE ?_
  conv in bd wU 0=>reduce
  simp
 have main:∃c0 c1 c2:Int,af (.of (kp n k r))= .slice 1 (([c0,c1,c2].map (PD.int .i64)).take k)∧
     post (fun o e H=>o= .exit 0∧e.get 1= .p (.int .i64 ((k:Nat):Int))∧e.get 7= .bu 1 0 3 (some 3) 1∧H=⟨[[.p (af a),.p (.int .i64 st)],([c0,c1,c2].map (PD.int .i64)).map .p],[]⟩) (eu (call pg) pg.G [1,7,8,9,10] (bd wU 0) ⟨[(1,.p (.int .i64 ((k:Nat):Int))),(7,.bu 1 0 3 (some 3) 1),(8,.p (.int .i64 ((n:Nat):Int))),(9,.p (.int .i64 ((r:Nat):Int))),(10,.p (.int .i64 ((k:Int)-1)))],⟨[[.p (af a),.p (.int .i64 st)],([0,0,0].map (PD.int .i64)).map .p],[]⟩⟩):=by
  have b0:(0 :Int)≤(r:Int)∧(r:Int)≤4611686018427387904:=by omega
  have b1:=Ja (n:=n) (by omega) b0;have b2:=Ja (n:=n) (by omega) b1;have mR:k=1∨k=2∨k=3:=by omega
  rcases mR with rfl |rfl |rfl
  ·refine⟨(r:Int).tmod n,0,0,by simp[kp,af,fD,Sl.map],?_⟩;exact B5 (Co (n:=n) (r:=r) ([0,0,0].map (PD.int .i64)) rfl (j:=0) (by omega) (by omega) b0 _ [] _) (last _ _ _ _ (by simp[kp,af,fD,Sl.map]))
  ·refine⟨((r:Int).tdiv n).tmod n,(r:Int).tmod n,0,by simp[kp,af,fD,Sl.map],?_⟩;refine B5 (Co (n:=n) (r:=r) ([0,0,0].map (PD.int .i64)) rfl (j:=1) (by omega) (by omega) b0 _ [] _) ?_;exact B5 (Co (n:=n) (r:=(r:Int).tdiv n) ([0,(r:Int).tmod n,0].map (PD.int .i64)) rfl (j:=0) (by omega) (by omega) b1 _ [] _) (last _ _ _ _ (by simp[kp,af,fD,Sl.map]))
  ·refine⟨(((r:Int).tdiv n).tdiv n).tmod n,((r:Int).tdiv n).tmod n,(r:Int).tmod n,by simp[kp,af,fD,Sl.map],?_⟩;refine B5 (Co (n:=n) (r:=r) ([0,0,0].map (PD.int .i64)) rfl (j:=2) (by omega) (by omega) b0 _ [] _) ?_;refine B5 (Co (n:=n) (r:=(r:Int).tdiv n) ([0,0,(r:Int).tmod n].map (PD.int .i64)) rfl (j:=1) (by omega) (by omega) b1 _ [] _) ?_;exact B5 (Co (n:=n) (r:=((r:Int).tdiv n).tdiv n) ([0,((r:Int).tdiv n).tmod n,(r:Int).tmod n].map (PD.int .i64)) rfl (j:=0) (by omega) (by omega) b2 _ [] _) (last _ _ _ _ (by simp[kp,af,fD,Sl.map]))
 obtain⟨c0,c1,c2,hc,hm⟩:=main;obtain⟨o,e,H,hx,rfl,e1,e7,rfl⟩:=bJ hm;have ae:=rf (bd wU 0)
 conv at ae=>rhs;reduce
 have hf:=rf wU
 conv at hf=>rhs;reduce
 rw[←ae] at hf;refine aG (aa:=[_,_,_]) hf rfl rfl rfl ?_;clear hf ae;simp at hx;have nS:Am 1 (.int .i64 0) 8 (.p (.int .i64 3)) (.p (.int .i64 3)) ⟨[[.p (af a),.p (.int .i64 st)]],[]⟩=some (.bu 1 0 3 (some 3) 1,⟨[[.p (af a),.p (.int .i64 st)],[.p (.int .i64 0),.p (.int .i64 0),.p (.int .i64 0)]],[]⟩):=by rfl
 have dk:CV 1 (.bu 1 0 3 (some 3) 1) none (some (.p (.int .i64 ((k:Nat):Int))))=some (.bu 1 0 k (some 3) 1):=by
  simp[CV,kB,D.lC,Al,hk]
 simp[Fm,eX,g1,g2,g3,g4,g5,nS,hx,e1,e7,dk];rw[hc];have mR:k=1∨k=2∨k=3:=by omega
 rcases mR with rfl |rfl |rfl
 ·exact Ol (ps:=[c0,c1,c2].map (PD.int .i64)) rfl (by simp) (by omega)
 ·exact Ol (ps:=[c0,c1,c2].map (PD.int .i64)) rfl (by simp) (by omega)
 ·exact Ol (ps:=[c0,c1,c2].map (PD.int .i64)) rfl (by simp) (by omega)
theorem aiw(a so ds:Sl Int)(st:Int)(hl:(els a).length≤1000)(h:∀x∈els a,0≤x∧x≤5)(oD:∀x∈els ds,0≤x)(hlen:(els ds).length=(els so).length)(hs:(els so).length<4611686018427387904):
    ∃r:Bool,(∀H,av (call pg) 158 [.p (.agg [af a,.int .i64 st]),.p (af ds),.p (af so)] H=some (.val (.p (.bool r)),H))∧(r=true↔(els ds).map (fl (els a) 0)=els so):=by
 have key:=ko (c:=call pg) (G:=pg.G) (keep:=[1,2,3,7]) (b:=bd zh 0) (fun i=>[(1,.p (af ds)),(2,.p (af so)),(3,.box 0 0),(7,.p (.int .i64 ((i:Nat):Int)))]) ⟨[[.p (af a),.p (.int .i64 st)]],[]⟩ (els so).length
  (fun i=>((els ds).map (fl (els a) 0))[i]? =(els so)[i]?) 0 (fun _=>True) (fun e=>e.get 6= .p (.bool false))
  (fun i hi hP=>by
   conv in bd zh 0=>reduce
   have bp:i<(els ds).length:=by omega
   rw[cP,aA hi,aA bp,eA,bI] at hP;have c1:=V8 a st (els ds)[i] hl h (oD _ (bO bp));simp[aR,cK hi,cK bp,hi,c1,hP,bw (k:=i) (by omega)])
  (fun i hi hP=>by
   conv in bd zh 0=>reduce
   have bp:i<(els ds).length:=by omega
   rw[cP,aA hi,aA bp,eA,bI] at hP;have c1:=V8 a st (els ds)[i] hl h (oD _ (bO bp));simp[aR,cK hi,cK bp,hi,c1,hP])
  (by
   conv in bd zh 0=>reduce
   simp[aR])
 have ae:=rf (bd zh 0)
 conv at ae=>rhs;reduce
 have hf:=rf zh
 conv at hf=>rhs;reduce
 rw[←ae] at hf;rcases key with⟨e,hx,-,hp⟩ |⟨e,hx,hr,hp⟩
 ·refine⟨true,aG (aa:=[_,_,_]) hf rfl rfl rfl ?_,iff_of_true rfl (oh fun i=>?_)⟩
  ·clear hf ae;simp at hx;simp[hx]
  ·rcases iP i (els so).length with h |h
   ·exact hp i h
   ·rw[lU h,lU (by rw[cx];omega)]
 ·refine⟨false,aG (aa:=[_,_,_]) hf rfl rfl rfl ?_,iff_of_false (by simp) fun hh=>hp fun i _=>by rw[hh]⟩;clear hf ae;simp at hx;simp[hx,hr]
theorem Wb{n:Int}(hn:1≤n):∀(k:Nat) (r:Int),0≤r→∀x∈kp n k r,0≤x
 | 0,_,_,x,hx=>by simp[kp] at hx
 |k+1,r,hr,x,hx=>by
  simp only[kp,cW,mH] at hx;rcases hx with hx |hx
  ·exact Wb hn k _ (YP hr (by omega)) x hx
  ·subst hx;rw[Kn hr];exact YR _ (by omega)
def lT(n:Nat)(ats so:List Int)(m:Nat):List Int:=((ku m).filter fun t:Nat=>decide ((kp n so.length (t:Int)).map (fl ats 0)=so)).map fun t=>((t:Nat):Int)
theorem Wc(n:Nat)(ats so:List Int)(m:Nat):dw (lT n ats so m):=by
 unfold lT dw;rw[Ko];refine PM (R:=fun a b:Nat=>a<b) (by intro a b h;omega) ?_;exact PN _ List.pairwise_lt_range
theorem Om(n:Nat)(ats so:List Int)(m:Nat):(lT n ats so m).length≤m:=by
 unfold lT;rw[cx];exact gA (F5 _ _) (by simp)
theorem Wd(a so:Sl Int)(st:Int)(hl:(els a).length≤1000)(h:∀x∈els a,0≤x∧x≤5)(mB:mo (els a).length (els so)){n:Nat}(hn:(els a).sum=n)(iJ:1≤n)(ic:n≤12):
    ∃d,(∀H,av (call pg) 102 [.p (.agg [af a,.int .i64 st]),.p (af so)] H=some (.val d,H))∧N6 d (els so).length (ll (lT n (els a) (els so) (n ^ (els so).length))):=by
 obtain⟨f1,f2,f3⟩:=mB;have oU:=tO ic f3;have Fm:=V7 a st f3 hl h hn ic;have qx:=jd (c:=call pg) (G:=pg.G) (keep:=[1,2,4,5,6]) (b:=bd tG 0) (fun i=>[(1,.p (af so)),(2,.box 0 0),(4,.box 1 0),(5,.p (.int .i64 (((els so).length:Nat):Int))),(6,.p (.int .i64 ((i:Nat):Int)))]) (fun _=>⟨[[.p (af a),.p (.int .i64 st)],[.p (.int .i64 0),.p .aI]],[]⟩) (els so).length (fun _=>True)
  (fun o e H=>H=⟨[[.p (af a),.p (.int .i64 st)],[.p (.int .i64 0),.p .aI]],[]⟩∧o= .exit 0∧e.get 1= .p (af so)∧e.get 2= .box 0 0∧e.get 4= .box 1 0∧e.get 5= .p (.int .i64 (((els so).length:Nat):Int))) trivial
  (fun i hi _=>by
   conv in bd tG 0=>reduce
   have hm:=f1 _ (bO hi);have g1:¬(els so)[i]<0:=by omega
   have g2:¬((els a).length:Int)≤(els so)[i]:=by omega
   simp[aR,cK hi,hi,g1,g2,bw (k:=i) (by omega)])
  (fun _=>by
   conv in bd tG 0=>reduce
   simp)
 have vD:=jd (c:=call pg) (G:=pg.G) (keep:=[1,2,4,5,7,8]) (b:=bd tG 1) (fun i=>[(1,.p (af so)),(2,.box 0 0),(4,.box 1 0),(5,.p (.int .i64 (((els so).length:Nat):Int))),(7,.box 2 0),(8,.p (.int .i64 ((i:Nat):Int)))])
  (fun i=>⟨[[.p (af a),.p (.int .i64 st)],[.p (.int .i64 0),.p .aI],[.p (.int .i64 (((els so).length:Nat):Int)),nW 3 1 ((lT n (els a) (els so) i).map (PD.int .i64))]],xj ((lT n (els a) (els so) i).map (PD.int .i64))⟩) (n ^ (els so).length) (fun _=>True)
  (fun o e H=>o= .exit 2∧e.get 4= .box 1 0∧e.get 7= .box 2 0∧∃tk,H=⟨[[.p (af a),.p (.int .i64 st)],[.p (.int .i64 0),.p .aI],[.p (.int .i64 (((els so).length:Nat):Int)),nW 3 1 ((lT n (els a) (els so) (n ^ (els so).length)).map (PD.int .i64))]],tk⟩) trivial
  (fun i hi _=>by
   conv in bd tG 1=>reduce
   have g1:(i:Int)<(n:Int) ^ (els so).length:=by rw[←CT];omega
   have ht:=aiv a st f2 f3 hl h hn iJ ic hi;obtain⟨r,c1,d1⟩:=aiw a so (.of (kp n (els so).length i)) st hl h (Wb (by omega) _ _ (by omega)) (Wa _ _ _) (by omega);have fQ:lT n (els a) (els so) (i+1)=lT n (els a) (els so) i++if r=true then[(i:Int)] else[]:=by
    unfold lT;rw[List.range_succ,YU,vW];congr 1
    simp only[xK,FY];cases r with
    |true=>
     have :(kp n (els so).length i).map (fl (els a) 0)=els so:=d1.1 rfl;simp[this]
    |false=>
     have :¬(kp n (els so).length i).map (fl (els a) 0)=els so:=fun hh=>by
      have:=d1.2 hh;cases this
     simp[this]
   have hlen:((lT n (els a) (els so) i).map (PD.int .i64)).length<1000000000:=by
    have:=Om n (els a) (els so) i;rw[cx];omega
   have cG:=fun bx=>N5 (e:=3) (sz:=1) (by':=8) (x:=.int .i64 (i:Int)) (bx:=bx) hlen (by omega);rw[fQ,vW];generalize (lT n (els a) (els so) i).map (PD.int .i64)=L at *;clear fQ;cases r with
   |true=>
    simp only[if_true,dA,mF];simp[-fj,g1,Fm,ht,c1,cG,VE,bw (k:=i) (by omega)]
   |false=>
    simp only[ob,if_false,mF,lA];simp[-fj,g1,Fm,ht,c1,bw (k:=i) (by omega)])
  (fun _=>by
   conv in bd tG 1=>reduce
   simp[Fm])
 obtain⟨o,e,H,hx,rfl,rfl,g1,g2,g4,g5⟩:=bJ qx;obtain⟨o,e',H,dB,rfl,Jy,We,tk,rfl⟩:=bJ vD;have h1:¬((els so).length:Int)<1:=by omega
 have h2:¬(3 :Int)<((els so).length:Int):=by omega
 have h3:lT n (els a) (els so) 0=[]:=rfl;rw[h3] at dB;generalize lT n (els a) (els so) (n ^ (els so).length)=L at *;have ai:=rf (bd tG 1)
 conv at ai=>rhs;reduce
 have ae:=rf (bd tG 0)
 conv at ae=>rhs;reduce
 have hf:=rf tG
 conv at hf=>rhs;reduce
 rw[←ai] at hf;rw[←ae] at hf;simp at hx dB;rcases N7 L 3 with⟨-,hg⟩ |⟨t,hg,hk⟩
 ·refine⟨.p (.agg [.int .i64 (els so).length,af (ll L)]),aG (aa:=[_,_]) hf rfl rfl rfl ?_,.inl rfl⟩;clear hf ae ai;rw[hg] at dB;simp[aR,h1,h2,hx,g1,g2,g4,g5,dB,Jy,We]
 ·refine⟨.agg [.p (.int .i64 ((els so).length)),.p (af (ll L))],aG (aa:=[_,_]) hf rfl rfl rfl ?_,.inr rfl⟩;clear hf ae ai;rw[hg] at dB;simp[aR,h1,h2,hx,g1,g2,g4,g5,dB,Jy,We,hk]
theorem aix(k:Nat)(H:Hp)(f:Nat)(cs:List D):D.aH k H (f+1) (.agg cs)=ec (cs.map (D.aH k H f)):=rfl
theorem Gr.aH{e sz base:Nat}{es:List PD}{d:D}{rest:List (List D)}(h:Gr e sz base es d rest)(hs:0<sz)(bs:List (List D))(eg:bs.length=base)(k:List Nat)(f:Nat):
    D.aH 0 ⟨bs++rest,k⟩ (f+2) d= .p (rowP sz es):=by
 obtain⟨_,hE,h⟩:=h;rcases h with⟨rfl,rfl⟩ |⟨i,rfl,hi,aq⟩
 ·exact lQ _ _ _ _
 ·have dr:=N9 hE;have h1:((es.flatMap PD.cells).map D.p).map (D.aH 0 ⟨bs++rest,k⟩ (f+1))=(es.flatMap PD.cells).map D.p:=by
   rw[uf];refine sV fun x _=>?_;simp[lQ]
  have h2:sub ((es.flatMap PD.cells).map D.p) 0 (0+es.length*sz)=(es.flatMap PD.cells).map D.p:=by
   unfold sub;rw[tZ];exact jC (by rw[cx,dr];omega)
  have h4:(bs++rest)[base+i]? =some ((es.flatMap PD.cells).map D.p):=by
   rw[eL (by omega),eg,vU];exact hi
  rw[V5 0 _ (f+1),if_pos (b9 _)];simp only[h4,h2,h1,zP];rw[if_pos ⟨yP _,by rw[cx,dr];omega,hs⟩,Cj hE];cases es with
  |nil=>exact absurd rfl aq
  |cons=>rfl
theorem Gr.one{e sz base:Nat}{es:List PD}{d:D}{rest:List (List D)}(h:Gr e sz base es d rest):d.one=true:=by
 rcases h.2.2 with⟨rfl,_⟩ |⟨i,rfl,_⟩<;>rfl
theorem Gr.cells{e sz base:Nat}{es:List PD}{d:D}{rest:List (List D)}(h:Gr e sz base es d rest):d.cells=[d]:=by
 rcases h.2.2 with⟨rfl,_⟩ |⟨i,rfl,_⟩<;>rfl
@[simp] theorem Wg(i e n sz:Nat):(D.aB i e n sz).one=true:=rfl
theorem aiy{e sz base:Nat}{es:List PD}{d:D}{rest:List (List D)}(h:Gr e sz base es d rest)(hs:0<sz)(bs:List (List D))(eg:bs.length=base)(k:List Nat)(a:PD):
    fin true (.agg [.p a,d]) ⟨bs++rest,k⟩ (.p (.agg [a,rowP sz es])):=by
 have h1:=h.aH hs bs eg k 5;have h2:D.aH 0 ⟨bs++rest,k⟩ 8 (.agg [.p a,d])= .p (.agg [a,rowP sz es]):=by
  rw[aix 0 _ 7];simp[lQ,h1,ec,gU]
 exact⟨.p (.agg [a,rowP sz es]),by rw[h2];simp[D.ren],rfl⟩
theorem aiz{e sz base:Nat}{es:List PD}{d:D}{rest:List (List D)}(h:Gr e sz base es d rest)(hs:0<sz)(bs:List (List D))(eg:bs.length=base)(k:List Nat):
    fin true d ⟨bs++rest,k⟩ (.p (rowP sz es)):=by
 have h1:=h.aH hs bs eg k 6;exact⟨.p (rowP sz es),by rw[h1];simp[D.ren],rfl⟩
theorem aiA(l:List Int):rowP 1 (l.map (PD.int .i64))=af (ll l):=by cases l<;>rfl
theorem aiB(l:List (Int×Int)):rowP 2 (l.map kR)=Ch (mr l):=by cases l<;>rfl
theorem aiC(a so:Sl Int)(st:Int):
    ∀H,av (call pg) 178 [.p (.agg [af a,.int .i64 st]),.p (.int .i64 0),.p (af so)] H=some (.val (.fn 237 [] [.ro [af so] 0,.ro [.int .i64 0] 0,.ro [af a,.int .i64 st] 0]),H):=by
 have hf:=rf T7
 conv at hf=>rhs;reduce
 refine aG (aa:=[_,_,_]) hf rfl rfl rfl ?_;clear hf;simp[fin,D.aH,D.jn,D.eM]
theorem aiD(l:List Int):aP intOf (l.map (PD.int .i64))=some l:=by
 induction l with
 |nil=>rfl
 |cons a r ih=>simp[aP,intOf,ih]
theorem Wh(a:Sl Int):wS (af a)=some (els a):=by
 cases a with
 |nil=>rfl
 |of l=>
  cases l with
  |nil=>rfl
  |cons x r=>simpa[af,fD,wS,Sl.map,els] using aiD (x::r)
 |cV=>rfl
theorem aiE(t:Int):pQ 1 (.int .i64 t):=.inl ⟨rfl,rfl⟩
theorem aiF(a so:Sl Int)(st p:Int)(h:∀x∈els a,0≤x∧x≤5)(hl:(els a).length≤1000)(bE:∀s∈els so,0≤s∧s<((els a).length:Int))(dk:(els so).length≤1000)(H:Hp):
    oT [] [.ro [af so] 0,.ro [.int .i64 p] 0,.ro [af a,.int .i64 st] 0] H=some ((eW (els a) (els so) p).map fun t=>[.p (.int .i64 t)]):=by
 have h1:=EO (m:=5) h;have h2:(els a).all (fun a=>decide (0≤a))=true:=by rw[gI];exact fun x hx=>decide_eq_true (h x hx).1
 have h3:(els so).all (fun s=>decide (0≤s∧s<((els a).length:Int)))=true:=by rw[gI];exact fun x hx=>decide_eq_true (bE x hx)
 unfold oT;simp only[Wh];rw[if_pos ⟨h2,by omega,h3,by omega,by omega⟩]
attribute [local irreducible] oT oR oS eW
theorem aiG(a so:Sl Int)(st:Int)(hl:(els a).length≤1000)(h:∀x∈els a,0≤x∧x≤5)(mB:mo (els a).length (els so))(kG:(eW (els a) (els so) 0).length<1000000):
    ∀H,av (call pg) 116 [.p (.agg [af a,.int .i64 st]),.p (af so)] H=some (.val (.p (.agg [.int .i64 (els so).length,af (ll (eW (els a) (els so) 0))])),H):=by
 obtain⟨f1,f2,f3⟩:=mB;have w1:=ER ((els so).length:Int) 1 3;rw[decide_eq_true (⟨by omega,by omega⟩:(1 :Int)≤(els so).length∧((els so).length:Int)≤3)] at w1;have key:=jd (c:=call pg) (G:=pg.G) (keep:=[1,2,4,14,15,16]) (b:=bd Bj 0) (fun i=>[(1,.p (af so)),(2,.box 0 0),(4,.box 1 0),(14,.p (af so)),(15,.p (.int .i64 (((els so).length:Nat):Int))),(16,.p (.int .i64 ((i:Nat):Int)))]) (fun _=>⟨[[.p (af a),.p (.int .i64 st)],[.p (.int .i64 0),.p .aI]],[]⟩) (els so).length (fun _=>True)
  (fun o e H=>H=⟨[[.p (af a),.p (.int .i64 st)],[.p (.int .i64 0),.p .aI]],[]⟩∧o= .exit 0∧e.get 1= .p (af so)∧e.get 2= .box 0 0∧e.get 4= .box 1 0) trivial ?_ ?_
 ·obtain⟨o,e,H,hx,rfl,rfl,g1,g2,g4⟩:=bJ key;have ht:=aiC a so st;have hg:=aiF a so st 0 h hl f1 (by omega);generalize eW (els a) (els so) 0=L at *;have ae:=rf (bd Bj 0)
  conv at ae=>rhs;reduce
  have hf:=rf Bj
  conv at hf=>rhs;reduce
  rw[←ae] at hf;refine aG (aa:=[_,_]) hf rfl rfl rfl ?_;clear hf ae;simp at hx;simp[aR,hx,g1,g2,g4,w1,ht,hg];refine Jk (fun i H=>∃d rest,H=⟨[[.p (af a),.p (.int .i64 st)],[.p (.int .i64 0),.p .aI],[.p (.int .i64 (((els so).length:Nat):Int)),d]]++rest,[]⟩∧Gr 3 1 3 ((L.map (PD.int .i64)).take i) d rest) ?_ ?_ ?_
  ·exact⟨_,[],rfl,Gr.nil ..⟩
  ·rintro i x H rz ⟨d,rest,rfl,hd⟩;rw[cP] at rz;cases ht:L[i]? with
   |none=>rw[ht] at rz;cases rz
   |some t=>
    rw[ht] at rz;cases rz;refine⟨rfl,?_⟩;have hi:=(az.1 ht).1;have e1:=(az.1 ht).2;obtain⟨d',gw,cG,bH⟩:=hd.app (by':=8) (by simp;omega) (by omega) (by omega) [[.p (af a),.p (.int .i64 st)],[.p (.int .i64 0),.p .aI],[.p (.int .i64 (((els so).length:Nat):Int)),d]] rfl [] (aiE t);have h1:=hd.one;have h2:=bH.one;have e2:(L.map (PD.int .i64)).take (i+1)=(L.map (PD.int .i64)).take i++[.int .i64 t]:=by
     rw[sW (by simpa using hi),List.getElem_map,e1]
    rw[e2];simp[zD] at cG;simp[mN,ow,oy,D.aD,D.refs,ins,qX,xl,cG,h2,bH.cells];exact⟨_,_,⟨rfl,rfl⟩,bH⟩
  ·rintro H ⟨d,rest,rfl,hd⟩;rw[cx,←cx (f:=PD.int .i64),oo] at hd;have dY:=aiy hd (by omega) [[.p (af a),.p (.int .i64 st)],[.p (.int .i64 (((els so).length:Nat):Int)),d],[.p (.int .i64 (((els so).length:Nat):Int)),d]] rfl [] (.int .i64 (els so).length);rw[aiA] at dY;rcases hd.2.2 with⟨rfl,hn⟩ |⟨j,rfl,-⟩
   ·have :L=[]:=by simpa using hn
    subst this;simp;rfl
   ·simp at dY;simp[gU,zA,dY]
 ·intro i hi _;have hm:=f1 _ (bO hi);have w2:=ER (els so)[i] 0 (((els a).length:Int)-1);rw[decide_eq_true (⟨by omega,by omega⟩:(0 :Int)≤(els so)[i]∧(els so)[i]≤((els a).length:Int)-1)] at w2;have hw:IntKind.i64.wrap (((els a).length:Int)-1)=((els a).length:Int)-1:=wrap64 (by omega) (by omega);have aM:=cK hi
  conv in bd Bj 0=>reduce
  simp[aR,aM,hi,w2,hw,bw (k:=i) (by omega)]
 ·intro _
  conv in bd Bj 0=>reduce
  simp[]
theorem Gr.ext{e sz base:Nat}{es:List PD}{d:D}{rest:List (List D)}(h:Gr e sz base es d rest)(ys:List PD):Gr e sz base es d (rest++[ys.map D.p]):=by
 obtain⟨h1,h2,h3⟩:=h;refine⟨fun cs ak=>?_,h2,?_⟩
 ·rcases cW.1 ak with h |h
  ·exact h1 cs h
  ·exact⟨ys,mH.1 h⟩
 ·rcases h3 with h3 |⟨i,q1,q2,q3⟩
  ·exact .inl h3
  ·exact .inr ⟨i,q1,by rw[cH (az.1 q2).1];exact q2,q3⟩
theorem Gr.aiH{e sz base by':Nat}{es:List PD}{d:D}{rest:List (List D)}(h:Gr e sz base es d rest)(hn:es.length<1000000)(hb:by'≤1000)(hs:0<sz)(bs:List (List D))(eg:bs.length=base)(k:List Nat){x:PD}(hx:pQ sz x):
    ∃d' gw,gL e sz by' d 1 (x.cells.map .p) ⟨bs++rest,k⟩=some (d',⟨bs++gw,k⟩)∧Gr e sz base (es++[x]) d' gw∧∀(j:Nat) (ys:List D),rest[j]? =some ys→ys.length≠es.length*sz→gw[j]? =some ys:=by
 have hr:roomy (es.length+1) by'=true:=by
  have :(es.length+1)*by'≤1000000*1000:=ug (by omega) hb;simp only[roomy,bQ,decide_eq_true_eq];omega
 obtain⟨d',gw,cG,hg⟩:=h.app hn hb hs bs eg k hx;refine⟨d',gw,cG,hg,fun j ys hj aq=>?_⟩;have nL:=(az.1 hj).1;obtain⟨_,hE,h⟩:=h;rcases h with⟨rfl,rfl⟩ |⟨i,rfl,hi,nF⟩
 ·have iC:roomy 1 by'=true:=by simpa using hr
  simp[gL,mK,iC] at cG;rw[←cG.2,cH nL];exact hj
 ·have fC:i<rest.length:=(az.1 hi).1;have dr:=N9 hE;have cQ:i≠j:=fun h=>by
   subst h;rw[hi] at hj;cases hj;exact aq (by rw[cx,dr])
  have lJ:0<es.length*sz:=Nat.mul_pos (xG.2 nF) hs;have h1:(bs++rest)[base+i]? =some ((es.flatMap PD.cells).map D.p):=by
   rw[eL (by omega),eg,vU];exact hi
  have h2:¬(es.length+1)*sz≤es.length*sz:=by rw[fM];omega
  have h3:(es.flatMap PD.cells).map D.p≠[]:=fun h=>by
   have:=congrArg oq h;rw[cx,dr] at this;simp at this;omega
  have h5:(bs++rest).set (base+i) []=bs++rest.set i []:=by
   rw[F6 _ _ (by omega),eg,vU]
  have h6:((es.flatMap PD.cells).map D.p).length=es.length*sz:=by rw[cx,dr]
  simp only[gL,h1,h5,h6,hr,yP,and_self,if_true,if_false,aV,ne_eq,h3,not_false_eq_true,h2,Nat.succ_ne_zero,bI,lB.injEq,Hp.mk.injEq,oc,List.append_cancel_left_eq] at cG;rw[←cG.2.1,cH (by rw[List.length_set];exact nL),dH cQ];exact hj
theorem Gr.Wi{e sz base:Nat}{es:List PD}{d:D}{rest:List (List D)}(h:Gr e sz base es d rest):aU [d]=false:=by
 rcases h.2.2 with⟨rfl,_⟩ |⟨i,rfl,_⟩<;>rfl
theorem On(x:PD):aU [.p x]=false:=rfl
theorem aiI{c:bC}{G:Nat→Option (List PD)}{Q:Out→Env→Hp→Prop}{xs:List (List D)}{ft b rest:SC}{env:Env}{ps:List Nat}{kb:Hp→Bool}{H:Hp}{k1 k2:Nat}(I:Nat→Hp→Prop)(h0:I 0 H)
    (h:∀i x H,xs[i]? =some x→I i H→x.length=ps.length∧post (fun o e H1=>o= .norm∧post (fun o _ H2=>o= .norm∧kb H2=true∧I (i+1) H2) (ay c G bf b ⟨e,H1⟩)) (ay c G bf ft ⟨mN env ps x,H⟩))
    (hq:∀H',I xs.length H'→post Q (sw c G (some (.norm,⟨env,H'⟩)) rest)):post Q (sw c G (sy k1 (sy k2 (yM c G (some xs) ft b env ps kb H))) rest):=by
 obtain⟨H',h1,h2⟩:=Jj (kb:=kb) I xs 0 H h0 fun i x H hx hI=>by simpa using h i x H hx (by simpa using hI)
 rw[eS] at h2;have h3:yM c G (some xs) ft b env ps kb H=some (.norm,⟨env,H'⟩):=h1;rw[h3];exact hq H' h2
theorem aiJ(la ua:Int)(lo up:Sl Int):
    ∀H,av (call pg) 159 [.p (.agg [.int .i64 la,af lo,.int .i64 ua,af up])] H=some (.val (.fn 226 [] [.ro [.int .i64 la,af lo,.int .i64 ua,af up] 0]),H):=by
 have hf:=rf TZ
 conv at hf=>rhs;reduce
 refine aG (aa:=[_]) hf rfl rfl rfl ?_;clear hf;simp[fin,D.aH,D.jn,D.eM]
theorem Wj:∀{l:List Int},dw l→yV l=true
 |[],_=>rfl
 |[_],_=>rfl
 |a::b::r,h=>by
  have h1:=xM.1 h;have:=h1.1 b pa;simp only[yV,bQ,decide_eq_true_eq];exact⟨by omega,Wj h1.2⟩
theorem aiK(la ua:Int)(lo up:Sl Int)(hs:dw (els lo))(h1:(els lo).length<4611686018427387904)(h2:(els up).length<4611686018427387904)(H:Hp):
    oR [] [.ro [.int .i64 la,af lo,.int .i64 ua,af up] 0] H=some ((lS (els up) (els lo)).map fun t=>[.p (.int .i64 t)]):=by
 unfold oR;simp only[Wh];rw[if_pos ⟨Wj hs,h1,h2⟩]
theorem aiL(p:Int×Int):pQ 2 (kR p):=.inr ⟨by decide,_,rfl,rfl⟩
theorem ap1{α:Type}(l:List α)(x y:α)(r:List α):(l++x::r).set l.length y=l++y::r:=by
 rw[F6 _ _ (aV _),xE];rfl
theorem ap2{α:Type}(l:List α)(x z y:α)(r:List α):(l++x::z::r).set (l.length+1) y=l++x::y::r:=by
 rw[F6 _ _ (by omega),vU];rfl
theorem aiM{α:Type}(l:List α)(x:α)(r:List α):(l++x::r)[l.length]? =some x:=by
 rw[eL (aV _),xE];rfl
theorem ap3{α:Type}(l:List α)(x z:α)(r:List α):(l++x::z::r)[l.length+1]? =some z:=by
 rw[eL (by omega),vU];rfl
theorem aiN(bs:Sl Bn)(hl:(els bs).length≤1000)(hu:∀b∈els bs,(els b.up.tu).length≤900∧(els b.lo.tu).length≤900)(hs:∀b∈els bs,dw (els b.lo.tu)):
    ∀H,av (call pg) 104 [.p (bG bs)] H=some (.val (.p (Ch (mr (cB 0 (els bs))))),H):=by
 have key:=eY (c:=call pg) (G:=pg.G) (σ:=Nat×D×List (List D)) (keep:=[3,7,8,9]) (b:=bd yY 0)
  (fun s=>[(3,.box 0 0),(7,.p (bG bs)),(8,.p (.int .i64 (((els bs).length:Nat):Int))),(9,.p (.int .i64 ((s.1:Nat):Int)))]) (fun s=>⟨[s.2.1]::s.2.2,[]⟩)
  (fun s=>(els bs).length-s.1) (fun s=>s.1≤(els bs).length∧Gr 112 2 1 ((cB 0 ((els bs).take s.1)).map kR) s.2.1 s.2.2)
  (fun o e H=>o= .exit 0∧e.get 3= .box 0 0∧∃d rest,H=⟨[d]::rest,[]⟩∧Gr 112 2 1 ((cB 0 (els bs)).map kR) d rest) ?_ (0,.p .aI,[]) ⟨b9 _,Gr.nil ..⟩
 ·obtain⟨o,e,H,hx,rfl,g3,d,rest,rfl,hd⟩:=bJ key;have h1:=hd.one;have dY:=aiz hd (by omega) [[d]] rfl [];rw[aiB] at dY;have ae:=rf (bd yY 0)
  conv at ae=>rhs;reduce
  have hf:=rf yY
  conv at hf=>rhs;reduce
  rw[←ae] at hf;refine aG (aa:=[_]) hf rfl rfl rfl ?_;clear hf ae;have oA:=hd.Wi;simp at hx dY;simp[-aU,gp,hx,g3,dY,oA]
 ·rintro⟨i,d,rest⟩ ⟨hi,hd⟩;dsimp only at hi hd⊢;rcases iP i (els bs).length with ah |kZ
  ·have hm:=bO ah;have c1:=aiJ (els bs)[i].lo.ar (els bs)[i].up.ar (els bs)[i].lo.tu (els bs)[i].up.tu;have hg:=aiK (els bs)[i].lo.ar (els bs)[i].up.ar (els bs)[i].lo.tu (els bs)[i].up.tu (hs _ hm) (by have:=hu _ hm;omega) (by have:=hu _ hm;omega);have aM:=pM ah;have iy:cB 0 ((els bs).take (i+1))=cB 0 ((els bs).take i)++(lS (els (els bs)[i].up.tu) (els (els bs)[i].lo.tu)).map fun t=>((i:Int),t):=by
    rw[sW ah,VM,pb,ue hi,eS];rfl
   have jT:(lS (els (els bs)[i].up.tu) (els (els bs)[i].lo.tu)).length≤900:=gA (F5 _ _) (hu _ hm).1;have rV:(cB 0 ((els bs).take i)).length≤1000*900-900:=by
    have h1:=Ci ((els bs).take i) 0 900 fun b hb=>(hu b (j8 hb)).1;rw[pb,ue hi] at h1;have h5:i*900≤999*900:=kz 900 (by omega);omega
   have ig:=bw (k:=i) (by omega);have dL:=hd.one
   suffices h:post (fun o e H=>o= .norm∧e.keep [3,7,8,9]=Env.keep [3,7,8,9] [(3,.box 0 0),(7,.p (bG bs)),(8,.p (.int .i64 (((els bs).length:Nat):Int))),(9,.p (.int .i64 ((i+1 :Nat):Int)))]∧∃d rest,H=⟨[d]::rest,[]⟩∧Gr 112 2 1 ((cB 0 ((els bs).take (i+1))).map kR) d rest)
       (ay (call pg) pg.G bf (bd yY 0) ⟨Env.keep [3,7,8,9] [(3,.box 0 0),(7,.p (bG bs)),(8,.p (.int .i64 (((els bs).length:Nat):Int))),(9,.p (.int .i64 ((i:Nat):Int)))],⟨[d]::rest,[]⟩⟩) by
    refine aX h ?_;rintro o e H ⟨rfl,he,d,rest,rfl,hg⟩;exact .inl ⟨(i+1,d,rest),⟨ah,hg⟩,by dsimp only;omega,rfl,rfl,he⟩
   rw[iy,vW,uf];generalize hG:cB 0 ((els bs).take i)=F at *;generalize hO:lS (els (els bs)[i].up.tu) (els (els bs)[i].lo.tu)=L at *;have HO:=hG;clear HO hG hO iy;generalize (els bs)[i]=b at *
   conv in bd yY 0=>reduce
   simp[aM,ah,c1,hg];refine aiI (fun j H=>∃d' gw,H=⟨[d']::gw,[]⟩∧Gr 112 2 1 (F.map kR++(L.take j).map (kR∘fun t=>((i:Int),t))) d' gw∧gw[rest.length]? =some [.p (.int .i64 i)]) ?_ ?_ ?_
   ·refine⟨d,_,rfl,?_,?_⟩
    ·have:=(hd.ext [.int .i64 i]).ext [.int .i64 b.lo.ar,af b.lo.tu,.int .i64 b.up.ar,af b.up.tu];simpa using this
    ·rw[aiM]
   ·rintro j x H fT ⟨d',gw,rfl,bH,hk⟩;rw[cP] at fT;cases ht:L[j]? with
    |none=>rw[ht] at fT;cases fT
    |some t=>
     rw[ht] at fT;cases fT;refine⟨rfl,?_⟩;have hj:=(az.1 ht).1;have e1:=(az.1 ht).2;have aq:(F.map kR++(L.take j).map (kR∘fun t=>((i:Int),t))).length<1000000:=by
      rw[iq,cx,cx,pb];omega
     obtain⟨d2,Og,cG,ja,bW⟩:=bH.aiH (by':=16) aq (by omega) (by omega) [[d']] rfl [] (aiL ((i:Int),t));have su:=bW _ _ hk (by simp only[xL];omega);have g1:=bH.one;have g2:=ja.one;have g3:=ja.cells;have g4:=bH.Wi;have e2:F.map kR++(L.take (j+1)).map (kR∘fun t=>((i:Int),t))=(F.map kR++(L.take j).map (kR∘fun t=>((i:Int),t)))++[kR ((i:Int),t)]:=by
      rw[sW hj,e1,vW,←oc];rfl
     rw[e2];generalize F.map kR++(L.take j).map (kR∘fun t=>((i:Int),t))=E at *;simp[kR,tL] at cG ja;simp[-aU,mN,ow,oy,D.aD,D.refs,ins,qX,xl,cG,g2,g3,g4,hk,On,kR];exact⟨_,_,⟨rfl,rfl⟩,ja,su⟩
   ·rintro H ⟨d',gw,rfl,bH,hk⟩;rw[cx,oo] at bH;simp[ig];exact⟨_,_,⟨rfl,rfl⟩,bH⟩
  ·have fk:i=(els bs).length:=by omega
   subst fk;rw[oo] at hd;refine aX (Q:=fun o e H=>o= .exit 0∧e.get 3= .box 0 0∧H=⟨[d]::rest,[]⟩) ?_ fun o e H hh=>.inr ?_
   ·skip
    conv in bd yY 0=>reduce
    simp
   ·obtain⟨rfl,h2,rfl⟩:=hh;exact⟨by simp,rfl,h2,d,rest,rfl,hd⟩
end Go.Proofs.YtgplgbonlnodeaaGreatDoor
namespace Go.Proofs.YtgplgbonlnodeaaGreatDoor
open Go.Vs
set_option maxRecDepth 100000
theorem Wl(x:Int):∀H,av (call pg) 123 [.p (.int .i64 x)] H=some (.val (.p (.bool false)),H):=by
 have hf:=rf Ng
 conv at hf=>rhs;reduce
 refine aG (aa:=[_]) hf rfl rfl rfl ?_;clear hf;simp
theorem aiO(x:Int):∀H,av (call pg) 180 [.p (.int .i64 x)] H=some (.val (.p (.bool false)),H):=by
 have hf:=rf T8
 conv at hf=>rhs;reduce
 refine aG (aa:=[_]) hf rfl rfl rfl ?_;clear hf;simp
theorem Jz(x y:Int):∀H,av (call pg) 122 [.p (.int .i64 x),.p (.int .i64 y)] H=some (.val (.p (.bool (decide (x<y)))),H):=by
 have hf:=rf TY
 conv at hf=>rhs;reduce
 refine aG (aa:=[_,_]) hf rfl rfl rfl ?_;clear hf;simp[aiO]
def At(l:List Int)(x:Int)(k:Nat):Prop:=k≤l.length∧(∀i (h:i<l.length),i<k→l[i]<x)∧∀i (h:i<l.length),k≤i→x≤l[i]
theorem Oo(l:Sl Int)(x:Int)(hl:(els l).length<4611686018427387904)(hs:dw (els l)):
    ∃k:Nat,At (els l) x k∧∀H,av (call pg) 69 [.p (af l),.p (.int .i64 x)] H=some (.val (.bA [.p (.int .i64 ((k:Nat):Int)),.p (.bool (decide (x∈els l)))]),H):=by
 have l8:=F0.1 hs;have key:=eY (c:=call pg) (G:=pg.G) (keep:=[0,1,6,7,8]) (b:=bd ng 0) (σ:=Nat×Nat) (fun s=>[(0,.p (af l)),(1,.p (.int .i64 x)),(6,.p (.int .i64 (((els l).length:Nat):Int))),(7,.p (.int .i64 ((s.1:Nat):Int))),(8,.p (.int .i64 ((s.2:Nat):Int)))]) (fun _=>⟨[],[]⟩) (fun s=>s.2-s.1)
  (fun s=>s.1≤s.2∧s.2≤(els l).length∧(∀i (h:i<(els l).length),i<s.1→(els l)[i]<x)∧∀i (h:i<(els l).length),s.2≤i→x≤(els l)[i])
  (fun o e H=>H=⟨[],[]⟩∧o= .exit 0∧e.get 0= .p (af l)∧e.get 1= .p (.int .i64 x)∧e.get 6= .p (.int .i64 (((els l).length:Nat):Int))∧∃k:Nat,e.get 7= .p (.int .i64 ((k:Nat):Int))∧At (els l) x k)
  ?_ (0,(els l).length) ⟨b9 _,aV _,fun i _ h=>absurd h (Ai _),fun i h h'=>absurd h (Nat.not_lt.2 h')⟩
 ·obtain⟨o,e,H,hx,rfl,rfl,g0,g1,g6,k,g7,hk⟩:=bJ key;refine⟨k,hk,?_⟩;obtain⟨jG,p1,p2⟩:=hk;simp at hx;have ae:=rf (bd ng 0)
  conv at ae=>rhs;reduce
  have hf:=rf ng
  conv at hf=>rhs;reduce
  rw[←ae] at hf;by_cases ah:k<(els l).length
  ·by_cases hq:(els l)[k]=x
   ·have hm:x∈els l:=hq▸bO ah;refine aG (aa:=[_,_]) hf rfl rfl rfl ?_;clear hf ae;simp[aR,hx,g0,g1,g6,g7,ah,cK ah,hq,hm]
   ·have hm:¬x∈els l:=fun hm=>by
     obtain⟨i,hi,rfl⟩:=p6 hm;rcases FZ i k with h |h |h
     ·have:=p1 i hi h;omega
     ·subst h;exact hq rfl
     ·have:=p2 k ah (aV _);have:=l8 k i ah hi h;omega
    refine aG (aa:=[_,_]) hf rfl rfl rfl ?_;clear hf ae;simp[aR,hx,g0,g1,g6,g7,ah,cK ah,hq,hm,Wl]
  ·have hm:¬x∈els l:=fun hm=>by
    obtain⟨i,hi,rfl⟩:=p6 hm;have:=p1 i hi (by omega);omega
   refine aG (aa:=[_,_]) hf rfl rfl rfl ?_;clear hf ae;simp[aR,hx,g6,g7,ah,hm]
 ·rintro⟨lo,hi⟩ ⟨h1,h2,h3,h4⟩;dsimp only at h1 h2 h3 h4⊢;by_cases ah:lo<hi
  ·have hm:(lo+hi)/2<(els l).length:=by omega
   have c1:IntKind.i64.wrap ((lo:Int)+(hi:Int))=((lo+hi:Nat):Int):=by rw[wrap64 (by omega) (by omega)];simp
   have c0:IntKind.u64.wrap ((lo+hi:Nat):Int)=((lo+hi:Nat):Int):=by
    simp[IntKind.wrap,IntKind.bits,IntKind.signed];omega
   have c2:lW .shr .u64 ((lo+hi:Nat):Int) 1=some (.int .u64 (((lo+hi)/2 :Nat):Int)):=by
    have :(((lo+hi:Nat):Int)).fdiv 2=(((lo+hi)/2 :Nat):Int):=by
     rw[amO _ (by omega)];omega
    simp only[lW,IntKind.bits];rw[if_neg (by omega)];exact congrArg (fun z=>some (PD.int .u64 z)) this
   have c4:IntKind.i64.wrap (((lo+hi)/2 :Nat):Int)=(((lo+hi)/2 :Nat):Int):=wrap64 (by omega) (by omega);have c3:=bw (k:=(lo+hi)/2) (by omega);have aM:=cK hm;by_cases hc:(els l)[(lo+hi)/2]<x
   ·refine aX (Q:=fun o e H=>nx [0,1,6,7,8] [(0,.p (af l)),(1,.p (.int .i64 x)),(6,.p (.int .i64 (((els l).length:Nat):Int))),(7,.p (.int .i64 (((lo+hi)/2+1 :Nat):Int))),(8,.p (.int .i64 ((hi:Nat):Int)))] ⟨[],[]⟩ o e H) ?_ fun o e H hh=>.inl ⟨((lo+hi)/2+1,hi),⟨by dsimp only;omega,h2,fun i h h'=>?_,h4⟩,by dsimp only;omega,hh⟩
    ·have hd:decide ((els l)[(lo+hi)/2]<x)=true:=decide_eq_true hc;have c5:=Jz (els l)[(lo+hi)/2] x;rw[hd] at c5
     conv in bd ng 0=>reduce
     generalize (els l)[(lo+hi)/2]=y at *;generalize (((lo+hi)/2+1 :Nat):Int)=m1 at *;generalize (((lo+hi)/2 :Nat):Int)=m at *;generalize ((lo+hi:Nat):Int)=m2 at *;simp[ah,c0,c1,c2,c3,c4,c5,aM]
    ·dsimp only at h';rcases iP i ((lo+hi)/2) with nk |nk
     ·have:=l8 i _ h hm nk;omega
     ·have :i=(lo+hi)/2:=by omega
      subst this;exact hc
   ·refine aX (Q:=fun o e H=>nx [0,1,6,7,8] [(0,.p (af l)),(1,.p (.int .i64 x)),(6,.p (.int .i64 (((els l).length:Nat):Int))),(7,.p (.int .i64 ((lo:Nat):Int))),(8,.p (.int .i64 (((lo+hi)/2 :Nat):Int)))] ⟨[],[]⟩ o e H) ?_ fun o e H hh=>.inl ⟨(lo,(lo+hi)/2),⟨by dsimp only;omega,by dsimp only;omega,h3,fun i h h'=>?_⟩,by dsimp only;omega,hh⟩
    ·have hd:decide ((els l)[(lo+hi)/2]<x)=false:=decide_eq_false hc;have c5:=Jz (els l)[(lo+hi)/2] x;rw[hd] at c5
     conv in bd ng 0=>reduce
     generalize (els l)[(lo+hi)/2]=y at *;generalize (((lo+hi)/2+1 :Nat):Int)=m1 at *;generalize (((lo+hi)/2 :Nat):Int)=m at *;generalize ((lo+hi:Nat):Int)=m2 at *;simp[ah,c0,c1,c2,c4,c5,aM]
    ·dsimp only at h';rcases iP ((lo+hi)/2) i with nk |nk
     ·have:=l8 _ i hm h nk;omega
     ·have :i=(lo+hi)/2:=by omega
      subst this;omega
  ·have :lo=hi:=by omega
   subst this;refine aX (Q:=fun o e H=>o= .exit 0∧H=⟨[],[]⟩∧e.get 0= .p (af l)∧e.get 1= .p (.int .i64 x)∧e.get 6= .p (.int .i64 (((els l).length:Nat):Int))∧e.get 7= .p (.int .i64 ((lo:Nat):Int))) ?_ fun o e H hh=>.inr ?_
   ·skip
    conv in bd ng 0=>reduce
    simp
   ·obtain⟨rfl,rfl,q1,q2,q3,q4⟩:=hh;exact⟨by simp,rfl,rfl,q1,q2,q3,lo,q4,h2,h3,h4⟩
variable {so f3 f4 : PD} {fi : Sl Fi} {a : Sl Int} {bs : Sl Bn} {st : Int}
def iE(so f3 f4:PD)(fi:Sl Fi)(a:Sl Int)(st:Int)(bs:Sl Bn)(K:Sl (Int×Int)):List PD:=[af a,.int .i64 st,so,bZ fi,f3,f4,bG bs,Ch K]
theorem Oq(o1:so.one=true)(o3:f3.one=true)(o4:f4.one=true)(hl:(els bs).length≤1000)(hu:∀b∈els bs,(els b.up.tu).length≤900∧(els b.lo.tu).length≤900)(hs:∀b∈els bs,dw (els b.lo.tu)):
    ∀H,av (call pg) 55 [.p (.agg [so,bZ fi,f3,f4]),.p (.agg [af a,.int .i64 st]),.p (bG bs)] H=some (.val (.ro (iE so f3 f4 fi a st bs (mr (cB 0 (els bs)))) 0),H):=by
 have c1:=aiN bs hl hu hs;generalize mr (cB 0 (els bs))=K at *;have hf:=rf TO
 conv at hf=>rhs;reduce
 refine aG (aa:=[_,_,_]) hf rfl rfl rfl ?_;clear hf;simp[c1,o1,o3,o4];simp[fin,D.aH,aU,D.jn,D.eM,D.ren,iE]
theorem aiP(st:Int):((aW st:Nat):Int)=if 1<st then st else 0:=by
 unfold aW;split<;>omega
theorem Wm(_:so.one=true)(K:Sl (Int×Int)):∀H,av (call pg) 75 [.ro (iE so f3 f4 fi a st bs K) 0] H=some (.val (.p (.int .i64 ((aW st:Nat):Int))),H):=by
 rw[aiP];unfold iE;have hf:=rf TS
 conv at hf=>rhs;reduce
 refine tN hf rfl rfl rfl rfl rfl rfl ?_;clear hf;by_cases h:1<st
 ·simp[h]
 ·simp[h]
theorem aiQ(l:List Fi):aP varOf (l.map Fi.p)=some (l.map Fi.va):=by
 induction l with
 |nil=>rfl
 |cons a r ih=>simp[aP,varOf,Fi.p,ih]
theorem aiR(f:Sl Fi):varsOf (bZ f)=some ((els f).map Fi.va):=by
 cases f with
 |nil=>rfl
 |of l=>
  cases l with
  |nil=>rfl
  |cons x r=>simpa[bZ,fD,varsOf,Sl.map,els] using aiQ (x::r)
 |cV=>rfl
theorem aiS(l:List (Int×Int)):aP Ij (l.map kR)=some l:=by
 induction l with
 |nil=>rfl
 |cons a r ih=>simp[aP,Ij,kR,ih]
theorem aiT(f:Sl (Int×Int)):Eh (Ch f)=some (els f):=by
 cases f with
 |nil=>rfl
 |of l=>
  cases l with
  |nil=>rfl
  |cons x r=>simpa[Ch,fD,Eh,Sl.map,els] using aiS (x::r)
 |cV=>rfl
theorem Ot(vs:List Bool)(s:Nat):∀(l:List (Int×Int)) (v:Nat),(jb vs s l v).length≤l.length
 |[],_=>by simp[jb]
 |(a,b)::r,v=>by
  simp only[jb];split
  ·have:=Ot vs s r v;simp only[dZ];omega
  ·have:=Ot vs s r (v+1);simp only[dZ];omega
theorem Fo(vs:List Bool)(free:List (Int×Int)):∀(n s v:Nat),(gR vs free n s v).length≤n*free.length
 | 0,_,_=>by simp[gR]
 |n+1,s,v=>by
  have h1:=Ot vs s free v;have h2:=Fo vs free n (s+1) (v+(jb vs s free v).length);simp only[gR,iq,fM];omega
theorem Ou(vs:List Bool)(s:Nat):∀(l:List (Int×Int)) (v j:Nat) e,(jb vs s l v)[j]? =some e→e.1=v+j+1
 |[],_,_,_,h=>by simp[jb] at h
 |(a,b)::r,v,j,e,h=>by
  simp only[jb] at h;split at h
  ·exact Ou vs s r v j e h
  ·cases j with
   |zero=>cases h;rfl
   |succ j=>have:=Ou vs s r (v+1) j e h;omega
theorem Cp(vs:List Bool)(free:List (Int×Int)):∀(n s v j:Nat) e,(gR vs free n s v)[j]? =some e→e.1=v+j+1
 | 0,_,_,_,_,h=>by simp[gR] at h
 |n+1,s,v,j,e,h=>by
  simp only[gR] at h;rcases iP j (jb vs s free v).length with hj |hj
  ·rw[cH hj] at h;exact Ou vs s free v j e h
  ·rw[eL hj] at h;have:=Cp vs free n (s+1) _ _ e h;omega
abbrev dX(fi:List Fi)(bs:List Bn)(st:Int):List (Nat×Nat×Int×Int):=gR (fi.map Fi.va) (cB 0 bs) st.toNat 0 (aW st)
theorem zQ:∀(l:List Bn) (i:Nat),∀p∈cB i l,∃j:Nat,p.1=(j:Int)∧i≤j∧j<i+l.length
 |[],i,p,h=>by simp[cB] at h
 |b::r,i,p,h=>by
  simp only[cB,cW] at h;rcases h with h |h
  ·unfold vF at h;obtain⟨t,_,rfl⟩:=dz.1 h;exact⟨i,rfl,aV _,by simp⟩
  ·obtain⟨j,h1,h2,h3⟩:=zQ r (i+1) p h;exact⟨j,h1,by omega,by simp only[dZ];omega⟩
theorem Ov(cC:st≤4)(fA:(els bs).length=(els fi).length)(hl:(els bs).length≤1000)(hu:∀b∈els bs,(els b.up.tu).length≤900)(H:Hp):
    oS [.ro (iE so f3 f4 fi a st bs (mr (cB 0 (els bs)))) 0] [] H=some ((dX (els fi) (els bs) st).map sG):=by
 have rV:(cB 0 (els bs)).length≤1000*900:=by
  have h1:=Ci (els bs) 0 900 hu;have h5:(els bs).length*900≤1000*900:=kz 900 hl;omega
 have h3:(cB 0 (els bs)).all (fun p=>decide (0≤p.1∧p.1<(((els fi).map Fi.va).length:Int)))=true:=by
  rw[gI];intro p hp;obtain⟨j,h1,h2,h3⟩:=zQ _ _ _ hp;rw[cx];exact decide_eq_true ⟨by omega,by omega⟩
 have h4:aW st+(gR ((els fi).map Fi.va) (cB 0 (els bs)) st.toNat 0 (aW st)).length<4611686018427387904:=by
  have h1:=Fo ((els fi).map Fi.va) (cB 0 (els bs)) st.toNat 0 (aW st);have h2:st.toNat*(cB 0 (els bs)).length≤4*(1000*900):=ug (by omega) rV;have h5:aW st≤4:=by unfold aW;split<;>omega
  omega
 unfold oS iE;simp only[aiR,aiT,ahm];rw[if_pos ⟨by omega,by omega,h3,h4⟩]
attribute [local irreducible] oT oR oS eW
def pR(fi:List Fi)(bs:List Bn)(st:Int):Nat:=aW st+(dX fi bs st).length
theorem Wn(o1:so.one=true)(cC:st≤4)(fA:(els bs).length=(els fi).length)(hl:(els bs).length≤1000)(hu:∀b∈els bs,(els b.up.tu).length≤900):
    ∀H,av (call pg) 56 [.ro (iE so f3 f4 fi a st bs (mr (cB 0 (els bs)))) 0] H=some (.val (.p (.int .i64 ((pR (els fi) (els bs) st:Nat):Int))),H):=by
 have c1:=Wm (f3:=f3) (f4:=f4) (fi:=fi) (a:=a) (st:=st) (bs:=bs) o1 (mr (cB 0 (els bs)));have hg:=Ov (so:=so) (f3:=f3) (f4:=f4) (a:=a) cC fA hl hu;have hv:∀(j:Nat) e,(dX (els fi) (els bs) st)[j]? =some e→e.1=aW st+j+1:=Cp ((els fi).map Fi.va) (cB 0 (els bs)) st.toNat 0 (aW st);unfold pR;generalize iE so f3 f4 fi a st bs (mr (cB 0 (els bs)))=C at *;generalize dX (els fi) (els bs) st=L at *;generalize aW st=v0 at *;have hf:=rf TP
 conv at hf=>rhs;reduce
 refine tN hf rfl rfl rfl rfl rfl rfl ?_;clear hf;simp[c1,hg];refine Jk (fun j H=>∃rest,H=⟨[.p (.int .i64 ((v0+j:Nat):Int))]::rest,[]⟩) ⟨[],rfl⟩ ?_ ?_
 ·rintro j x H fT ⟨rest,rfl⟩;rw[cP] at fT;cases ht:L[j]? with
  |none=>rw[ht] at fT;cases fT
  |some e=>
   rw[ht] at fT;cases fT;refine⟨rfl,?_⟩;have he:=hv j e ht;obtain⟨e1,e2,e3,e4⟩:=e;dsimp only at he;subst he;simp[sG,mN,oy,D.aD,D.refs,ins,qX,xl,Int.add_assoc]
 ·rintro H ⟨rest,rfl⟩;rw[cx];simp
end Go.Proofs.YtgplgbonlnodeaaGreatDoor
namespace Go.Proofs.YtgplgbonlnodeaaGreatDoor
open Go.Vs
set_option maxRecDepth 100000
def Cq(x:Sl Rl)(f:Nat):List Int:=match(els x)[f]? with |some r=>els r.tu |none=>[]
def bits(L:List (Int×Int))(x:Sl Rl):List Bool:=L.map fun p=>decide (p.2∈Cq x p.1.toNat)
structure ap4 (L:List (Int×Int)) (ss:List (Sl Rl)):Prop where
 ix:∀x∈ss,∀p∈L,∃j:Nat,p.1=(j:Int)∧j<(els x).length
 ln:∀x∈ss,∀r∈els x,(els r.tu).length<4611686018427387904
 sr:∀x∈ss,∀r∈els x,dw (els r.tu)
def lr(l:List Bool):List D:=(l.map PD.bool).map .p
theorem Fp(l:List Bool):(lr l).length=l.length:=by simp[lr]
theorem JA(l:List Bool):aU (lr l)=false:=yP _
theorem Wo(f g:Nat→Option Nat)(l:List Bool):D.ba f g (lr l)=some (lr l):=iM f g _
theorem Ow{l:List Bool}{i:Nat}(b:Bool)(h:i<l.length):rI i (lr l)++D.p (.bool b)::List.drop (i+1) (lr l)=lr (l.set i b):=by
 unfold lr;rw[List.set_eq_take_append_cons_drop,if_pos h];simp[Pu,Pv]
theorem JB(x y:D)(r:List D):aU (x::y::r)=false:=by cases x<;>rfl
theorem Fq(i o n sz:Nat)(c:Option Nat):aU [.bu i o n c sz]=false:=rfl
@[simp] theorem ad1(i o n sz:Nat)(c:Option Nat):(D.bu i o n c sz).one=true:=rfl
theorem aiU{n:Nat}(h:n≤140737488355328)(H:Hp):Am 1 (.bool false) 1 (.p (.int .i64 ((n:Nat):Int))) (.p (.int .i64 ((n:Nat):Int))) H=some (.bu H.bx.length 0 n (some n) 1,⟨H.bx++[lr (eB n false)],H.tk⟩):=by
 have h2:((eB n (PD.bool false)).flatMap PD.cells)=(eB n false).map PD.bool:=by
  induction n with
  |zero=>rfl
  |succ n ih=>rw[YV,ub,ih (by omega),YV,dA];rfl
 have hr:roomy n 1=true:=by simp only[roomy,bQ,decide_eq_true_eq];omega
 have h0:(0 :Int)≤(n:Int):=by omega
 simp only[Am,D.lC,h0,if_true,qF,h2];rw[if_pos ⟨aV _,hr,rfl,rfl⟩];rfl
theorem Wp{Q:Out→Env→Hp→Prop}{nb nt:Nat}{e:Env}{H:Hp}(h1:nb=H.bx.length)(h2:nt=H.tk.length)(h3:∀cs∈H.bx,D.ba (below nb) (below nt) cs=some cs)(h:∀e,Q .norm e H):post Q (some (dJ nb nt (.norm,⟨e,H⟩))):=by
 subst h1;subst h2;have key:∀l:List (List D),(∀cs∈l,D.ba (below H.bx.length) (below H.tk.length) cs=some cs)→aP (D.ba (below H.bx.length) (below H.tk.length)) l=some l:=by
  intro l
  induction l with
  |nil=>intro _;rfl
  |cons a r ih=>intro hh;simp only[aP,hh a pa,ih fun c hc=>hh c (jD _ hc),eA]
 simp only[dJ,aV,and_self,if_true,oo,key _ h3,Out.ren,agB];exact h _
theorem Ox{b n:Nat}{c:Option Nat}{i:Nat}(h:i<n):eN none 1 (.bu b 0 n c 1) (i:Int)=some (.box b i):=by
 simp[eN,h]
def preB(st lp:Int):List Bool:=if 1<st then(eB st.toNat false).set (st-lp-1).toNat true else[]
def nZ(ss:List (Sl Rl))(e:Nat×Nat×Int×Int):Bool:=match ss[e.2.1]? with |some x=>decide (e.2.2.2∈Cq x e.2.2.1.toNat) |none=>false
def fL(fi:List Fi)(bs:List Bn)(st lp:Int)(ss:List (Sl Rl)):List Bool:=preB st lp++(dX fi bs st).map (nZ ss)
theorem Fs(st lp:Int):(preB st lp).length=aW st:=by
 unfold preB aW;split<;>simp
theorem JC(vs:List Bool)(s:Nat):∀(l:List (Int×Int)) (v:Nat) e,e∈jb vs s l v→e.2.1=s∧(e.2.2.1,e.2.2.2)∈l
 |[],_,_,h=>by simp[jb] at h
 |(a,b)::r,v,e,h=>by
  simp only[jb] at h;split at h
  ·have:=JC vs s r v e h;exact⟨this.1,jD _ this.2⟩
  ·rcases cN.1 h with rfl |h
   ·exact⟨rfl,pa⟩
   ·have:=JC vs s r (v+1) e h;exact⟨this.1,jD _ this.2⟩
theorem xn(vs:List Bool)(free:List (Int×Int)):∀(n s v:Nat) e,e∈gR vs free n s v→s≤e.2.1∧e.2.1<s+n∧(e.2.2.1,e.2.2.2)∈free
 | 0,_,_,_,h=>by simp[gR] at h
 |n+1,s,v,e,h=>by
  simp only[gR,cW] at h;rcases h with h |h
  ·have:=JC vs s free v e h;exact⟨by omega,by omega,this.2⟩
  ·have:=xn vs free n (s+1) _ e h;exact⟨by omega,by omega,this.2.2⟩
def sQ(pre:List Bool)(L:List (Nat×Nat×Int×Int))(f:Nat×Nat×Int×Int→Bool)(j:Nat):List Bool:=pre++((L.take j).map f++eB (L.length-j) false)
theorem aiV(pre:List Bool)(L:List (Nat×Nat×Int×Int))(f:Nat×Nat×Int×Int→Bool){j:Nat}(h:j≤L.length):(sQ pre L f j).length=pre.length+L.length:=by
 simp only[sQ,iq,cx,pb,CQ];omega
theorem aiW(pre:List Bool)(L:List (Nat×Nat×Int×Int))(f:Nat×Nat×Int×Int→Bool){j:Nat}{e}(h:L[j]? =some e):(sQ pre L f j).set (pre.length+j) (f e)=sQ pre L f (j+1):=by
 have hj:=(az.1 h).1;have he:=(az.1 h).2;unfold sQ;rw[F6 _ _ (by omega),vU,F6 _ _ (by simp;omega),sW hj,he,vW,oc];congr 2
 rw[cx,pb,ue (by omega),xE,show L.length-j=L.length-(j+1)+1 by omega,YV];rfl
theorem aiX(pre:List Bool)(L:List (Nat×Nat×Int×Int))(f:Nat×Nat×Int×Int→Bool):sQ pre L f L.length=pre++L.map f:=by
 simp[sQ]
theorem aiY(L:List (Nat×Nat×Int×Int))(f:Nat×Nat×Int×Int→Bool)(st lp:Int)(h:0≤lp∧lp<st):sQ (preB st lp) L f 0=if 1<st then(eB (aW st+L.length) false).set (st-lp-1).toNat true else eB (aW st+L.length) false:=by
 unfold sQ preB aW;split
 ·rw[←List.replicate_append_replicate,List.set_append_left _ _ (by simp;omega)];simp
 ·simp
def pS:List Bool→Sl Bool
 |[]=>.cV
 |x::r=>.of (x::r)
theorem Ft(l:List Bool):els (pS l)=l:=by cases l<;>rfl
theorem aiZ(l:List Bool):dy (pS l)= .slice 1 (l.map PD.bool):=by cases l<;>rfl
theorem ai0(k:Nat)(H:Hp)(f:Nat)(cs:List D):D.aH k H (f+1) (.bA cs)= .bA (cs.map (D.aH k H f)):=rfl
theorem ai1(k:Nat)(H:Hp)(f i off n sz:Nat)(c:Option Nat):D.aH k H (f+1) (.bu i off n c sz)=if k≤i then(match H.bx[i]? with
      |some cs=>if aU cs=false∧off+n*sz≤cs.length∧0<sz then(match D.jn ((sub cs off (off+n*sz)).map (D.aH k H f)) with
       |some ps=>.p (.slice sz (chunks sz n ps))
       |none=>.bu i off n c sz) else .bu i off n c sz
      |none=>.bu i off n c sz) else .bu i off n c sz:=rfl
theorem ai2{l:List Bool}{H:Hp}{i:Nat}(h:H.bx[i]? =some (lr l))(b:Bool):fin true (.bA [.bu i 0 l.length (some l.length) 1,.p (.bool b)]) H (.bA [.p (dy (pS l)),.p (.bool b)]):=by
 have h1:D.aH 0 H 7 (.bu i 0 l.length (some l.length) 1)= .p (dy (pS l)):=by
  have h2:(sub (lr l) 0 (0+l.length*1)).map (D.aH 0 H 6)=(l.map PD.bool).map .p:=by
   have :sub (lr l) 0 (0+l.length*1)=lr l:=by
    unfold sub;rw[tZ];exact jC (by rw[Fp];omega)
   rw[this];unfold lr;rw[uf];refine sV fun x _=>?_;simp[lQ]
  have h3:chunks 1 l.length (l.map PD.bool)=l.map PD.bool:=by
   have hE:∀x∈l.map PD.bool,pQ 1 x:=fun x hx=>by
    obtain⟨b,_,rfl⟩:=dz.1 hx;exact .inl ⟨rfl,rfl⟩
   have h4:=Cj hE;have h5:(l.map PD.bool).flatMap PD.cells=l.map PD.bool:=by
    clear h4 hE h2 h
    induction l with
    |nil=>rfl
    |cons x r ih=>rw[dA,ub,ih];rfl
   rw[h5,cx] at h4;exact h4
  rw[ai1,if_pos (b9 _)];simp only[h,h2,zP,h3];rw[if_pos ⟨JA _,by rw[Fp];omega,by decide⟩,aiZ]
 refine⟨.bA [.p (dy (pS l)),.p (.bool b)],?_,?_⟩
 ·rw[if_pos rfl,ai0,dA,h1,dA,lQ];simp[D.ren,D.ba]
 ·simp[D.ren,D.ba]
theorem Cr(a b:Sl Int)(x y:Int){d:D}(hd:N6 d y b)(ha:(els a).length<1000000000)(hb:(els b).length<4611686018427387904)(hs:dw (els b)):
    ∃r:Bool,(∀H,av (call pg) 101 [.p (.agg [.int .i64 x,af a]),d] H=some (.val (.p (.bool r)),H))∧(r=true↔∀t∈els a,t∈els b):=by
 obtain⟨z,c1,d1⟩:=ahe a b x y ha hb hs;have hk:=tT ((els a).filter fun t=>!(els b).contains t);have iB:(((els a).filter fun t=>!(els b).contains t).length=0)↔∀t∈els a,t∈els b:=by
  rw[Kb,List.filter_eq_nil_iff];simp
 generalize ll ((els a).filter fun t=>!(els b).contains t)=K at *;rw[←hk] at iB;have hf:=rf Uh
 conv at hf=>rhs;reduce
 have h0:((((els K).length:Int)==0)=true)↔(els K).length=0:=by simp
 refine⟨((els K).length:Int)==0,?_,h0.trans iB⟩;clear iB h0 hk;rcases hd with rfl |rfl
 ·refine aG (aa:=[_,_]) hf rfl rfl rfl ?_;clear hf;rcases d1 with rfl |rfl
  ·simp[c1,aR]
  ·simp[c1,aR]
 ·refine tN (aa:=[_,_]) hf rfl rfl rfl rfl rfl rfl ?_;clear hf;rcases d1 with rfl |rfl
  ·simp[c1,aR]
  ·simp[c1,aR]
def zR(lo up:Sl Int)(la ua:Int)(ar:Int)(tu:Sl Int):Prop:=la=ar∧ua=ar∧(∀t∈els lo,t∈els tu)∧∀t∈els tu,t∈els up
theorem Wq(lo up tu:Sl Int)(la ua ar:Int)(h1:(els lo).length<1000000000)(h2:(els up).length<1000000000)(h3:(els tu).length<1000000000)(s2:dw (els up))(s3:dw (els tu)):
    ∃r:Bool,(∀H,av (call pg) 82 [.p (.agg [.int .i64 la,af lo,.int .i64 ua,af up]),.p (.agg [.int .i64 ar,af tu])] H=some (.val (.p (.bool r)),H))∧(r=true↔zR lo up la ua ar tu):=by
 have hf:=rf Ud
 conv at hf=>rhs;reduce
 obtain⟨r1,c1,d1⟩:=Cr lo tu la ar (.inl rfl) h1 (by omega) s3;obtain⟨r2,c2,d2⟩:=Cr tu up ar ua (.inl rfl) h3 (by omega) s2;by_cases g1:la=ar
 ·by_cases g2:ua=ar
  ·subst g1;subst g2;refine⟨r1&&r2,aG (aa:=[_,_]) hf rfl rfl rfl ?_,?_⟩
   ·clear hf;cases r1
    ·simp[c1]
    ·simp[c1,c2]
   ·rw[bQ,d1,d2];exact⟨fun h=>⟨rfl,rfl,h⟩,fun h=>h.2.2⟩
  ·refine⟨false,aG (aa:=[_,_]) hf rfl rfl rfl ?_,iff_of_false (by simp) fun h=>g2 h.2.1⟩;clear hf;subst g1;simp[g2]
 ·refine⟨false,aG (aa:=[_,_]) hf rfl rfl rfl ?_,iff_of_false (by simp) fun h=>g1 h.1⟩;clear hf;simp[g1]
def xp(bs:List Bn)(x:Sl Rl):Prop:=(els x).length=bs.length∧∀k,k<bs.length→∀b r,bs[k]? =some b→(els x)[k]? =some r→zR b.lo.tu b.up.tu b.lo.ar b.up.ar r.ar r.tu
structure Wr (bs:List Bn) (ss:List (Sl Rl)):Prop where
 Oy:∀b∈bs,(els b.lo.tu).length<1000000000
 Oz:∀b∈bs,(els b.up.tu).length<1000000000
 sup:∀b∈bs,dw (els b.up.tu)
 sR:∀b∈bs,dw (els b.lo.tu)
 rl:∀x∈ss,∀r∈els x,(els r.tu).length<1000000000
 sr:∀x∈ss,∀r∈els x,dw (els r.tu)
theorem ai3(bs:Sl Bn)(a:Sl Int)(ss:Sl (Sl Rl))(st lp:Int)(hb:(els bs).length<4611686018427387904)(ni:(els ss).length<4611686018427387904)(ok:Wr (els bs) (els ss)):
    ∃r:Bool,(∀H,av (call pg) 27 [.p (bG bs),.p (.agg [af a,.int .i64 st,bK ss,.int .i64 lp])] H=some (.val (.p (.bool r)),H))∧(r=true↔∀x∈els ss,xp (els bs) x):=by
 have qx:=fun(i:Nat) (hi:i<(els ss).length) (hl:(els (els ss)[i]).length=(els bs).length)=>ko (c:=call pg) (G:=pg.G) (keep:=[0,3,5,6]) (b:=bd nU 1) (fun k=>[(0,.p (bG bs)),(3,.box 0 0),(5,.p (.int .i64 ((i:Nat):Int))),(6,.p (.int .i64 ((k:Nat):Int)))])
  ⟨[[.p (af a),.p (.int .i64 st),.p (bK ss),.p (.int .i64 lp)]],[]⟩ (els bs).length
  (fun k=>∀b r,(els bs)[k]? =some b→(els (els ss)[i])[k]? =some r→zR b.lo.tu b.up.tu b.lo.ar b.up.ar r.ar r.tu) 2 (fun e=>e.get 0= .p (bG bs)∧e.get 3= .box 0 0∧e.get 5= .p (.int .i64 ((i:Nat):Int))) (fun e=>e.get 4= .p (.bool false))
  (fun k hk hP=>by
   conv in bd nU 1=>reduce
   have bW:k<(els (els ss)[i]).length:=by omega
   have hP:=hP _ _ (aA hk) (aA bW);have m1:=bO hk;have m2:=bO hi;have m3:=bO bW;obtain⟨r,c1,d1⟩:=Wq (els bs)[k].lo.tu (els bs)[k].up.tu (els (els ss)[i])[k].tu (els bs)[k].lo.ar (els bs)[k].up.ar (els (els ss)[i])[k].ar (ok.Oy _ m1) (ok.Oz _ m1) (ok.rl _ m2 _ m3) (ok.sup _ m1) (ok.sr _ m2 _ m3);have:=d1.2 hP;subst this;simp[gp,jf hi,mn bW,pM hk,hk,c1,bw (k:=k) (by omega)])
  (fun k hk hP=>by
   conv in bd nU 1=>reduce
   have bW:k<(els (els ss)[i]).length:=by omega
   have m1:=bO hk;have m2:=bO hi;have m3:=bO bW;obtain⟨r,c1,d1⟩:=Wq (els bs)[k].lo.tu (els bs)[k].up.tu (els (els ss)[i])[k].tu (els bs)[k].lo.ar (els bs)[k].up.ar (els (els ss)[i])[k].ar (ok.Oy _ m1) (ok.Oz _ m1) (ok.rl _ m2 _ m3) (ok.sup _ m1) (ok.sr _ m2 _ m3);cases r with
   |true=>
    refine absurd (fun b r h1 h2=>?_) hP;rw[aA hk] at h1;rw[aA bW] at h2;cases h1;cases h2;exact d1.1 rfl
   |false=>simp[gp,jf hi,mn bW,pM hk,hk,c1])
  (by
   conv in bd nU 1=>reduce
   simp[gp])
 have key:=ko (c:=call pg) (G:=pg.G) (keep:=[0,3,5]) (b:=bd nU 0) (fun i=>[(0,.p (bG bs)),(3,.box 0 0),(5,.p (.int .i64 ((i:Nat):Int)))])
  ⟨[[.p (af a),.p (.int .i64 st),.p (bK ss),.p (.int .i64 lp)]],[]⟩ (els ss).length
  (fun i=>∀x,(els ss)[i]? =some x→xp (els bs) x) 0 (fun _=>True) (fun e=>e.get 4= .p (.bool false))
  (fun i hi hP=>by
   have ai:=rf (bd nU 1)
   conv at ai=>rhs;reduce
   have ae:=rf (bd nU 0)
   conv at ae=>rhs;reduce
   rw[←ai] at ae;obtain⟨p1,p2⟩:=qv hi hP;rcases qx i hi p1 with⟨e,hx,⟨g0,g3,g5⟩,-⟩ |⟨e,hx,-,hn⟩
   ·rw[ae];clear ae ai;simp at hx;simp[eJ,je,gp,jf hi,hi,p1,hx,g0,g3,g5,bw (k:=i) (by omega)]
   ·exact absurd p2 hn)
  (fun i hi hP=>by
   have ai:=rf (bd nU 1)
   conv at ai=>rhs;reduce
   have ae:=rf (bd nU 0)
   conv at ae=>rhs;reduce
   rw[←ai] at ae;have hf:=rf nU
   conv at hf=>rhs;reduce
   rw[←ai] at hf;rw[←ae] at hf;have hP:=tP hi hP;by_cases p1:(els (els ss)[i]).length=(els bs).length
   ·rcases qx i hi p1 with⟨e,hx,-,hn⟩ |⟨e,hx,g4,-⟩
    ·exact absurd ⟨p1,hn⟩ hP
    ·rw[ae];clear hf ae ai;simp at hx;simp[eJ,je,gp,jf hi,hi,p1,hx,g4]
   ·rw[ae];clear hf ae ai;simp[eJ,je,gp,jf hi,hi,p1])
  (by
   have ai:=rf (bd nU 1)
   conv at ai=>rhs;reduce
   have ae:=rf (bd nU 0)
   conv at ae=>rhs;reduce
   rw[←ai] at ae;rw[ae];clear ae ai;simp[eJ])
 have ai:=rf (bd nU 1)
 conv at ai=>rhs;reduce
 have ae:=rf (bd nU 0)
 conv at ae=>rhs;reduce
 rw[←ai] at ae;have hf:=rf nU
 conv at hf=>rhs;reduce
 rw[←ai] at hf;rw[←ae] at hf;rcases key with⟨e,hx,-,hq⟩ |⟨e,hx,g4,hq⟩
 ·rw[jA] at hq;refine⟨true,aG (aa:=[_,_]) hf rfl rfl rfl ?_,iff_of_true rfl hq⟩;clear hf ae ai;simp at hx;simp[hx]
 ·rw[jA] at hq;refine⟨false,aG (aa:=[_,_]) hf rfl rfl rfl ?_,iff_of_false (by simp) hq⟩;clear hf ae ai;simp at hx;simp[hx,g4]
theorem xq{n ar:Int}{l:List Int}(h:pN n ar l):dw l:=by
 obtain⟨_,_,_,_,h⟩:=h;have step:∀i (hi:i+1<l.length),l[i]<l[i+1]:=fun i hi=>by
  have:=(h (i+1) hi).2 l[i+1] l[i] (by omega) (aA hi) (by rw[YS];exact aA (by omega));exact this
 refine F0.2 fun i j hi hj cQ=>?_;have key:∀d (hd:i+(d+1)<l.length),l[i]<l[i+(d+1)]:=by
  intro d
  induction d with
  |zero=>intro hd;exact step i hd
  |succ d ih=>
   intro hd;have h1:=ih (by omega);have h2:=step (i+(d+1)) (by omega);exact Int.lt_trans h1 h2
 have:=key (j-i-1) (by omega);have e:i+(j-i-1+1)=j:=by omega
 simp only[e] at this;exact this
theorem ai4{n ar:Int}{l:List Int}(h:pN n ar l):∀t∈l,0≤t∧t<n ^ ar.toNat:=by
 obtain⟨_,_,_,_,h⟩:=h;intro t ht;obtain⟨i,hi,rfl⟩:=p6 ht;exact(h i hi).1 _ (aA hi)
def Cs(n:Nat)(ats:List Int)(so:List Int)(b:Bn):Prop:=
 b.lo.ar=so.length∧b.up.ar=so.length∧pN n b.lo.ar (els b.lo.tu)∧pN n b.up.ar (els b.up.tu)∧(∀t∈els b.lo.tu,t∈els b.up.tu)∧∀t∈els b.up.tu,t∈lT n ats so (n ^ so.length)
variable {so f3 f4 : PD} {fi : Sl Fi} {a : Sl Int} {st : Int} {bs : Sl Bn} {n : Nat}
theorem ai5(o1:so.one=true)(o3:f3.one=true)(o4:f4.one=true)(fQ:(els fi).length<4611686018427387904)(_:(els bs).length<4611686018427387904)
    (hl:(els a).length≤1000) (h:∀x∈els a,0≤x∧x≤5) (hn:(els a).sum=n) (ic:n≤12) (iJ:∀f∈els fi,1≤n)
    (mB:∀f∈els fi,mo (els a).length (els f.so)) (dU:∀b∈els bs,(els b.lo.tu).length<1000000000∧(els b.up.tu).length<1000000000):
    ∃r:Bool,(∀H,av (call pg) 50 [.p (.agg [so,bZ fi,f3,f4]),.p (.agg [af a,.int .i64 st]),.p (bG bs)] H=some (.val (.p (.bool r)),H))∧
     (r=true↔(els bs).length=(els fi).length∧∀i,i<(els bs).length→∀b f,(els bs)[i]? =some b→(els fi)[i]? =some f→Cs n (els a) (els f.so) b):=by
 have eX:=Oj a st hl h;rw[hn] at eX;have key:=fun(heq:(els bs).length=(els fi).length)=>ko (c:=call pg) (G:=pg.G) (keep:=[2,3,4,7,8]) (b:=bd y9 0) (fun i=>[(2,.p (bG bs)),(3,.box 0 0),(4,.box 1 0),(7,.p (.int .i64 ((n:Nat):Int))),(8,.p (.int .i64 ((i:Nat):Int)))])
  ⟨[[.p so,.p (bZ fi),.p f3,.p f4],[.p (af a),.p (.int .i64 st)]],[]⟩ (els bs).length
  (fun i=>∀b f,(els bs)[i]? =some b→(els fi)[i]? =some f→Cs n (els a) (els f.so) b) 0 (fun _=>True) (fun e=>e.get 6= .p (.bool false))
  (fun i hi hP=>by
   conv in bd y9 0=>reduce
   have bp:i<(els fi).length:=by omega
   obtain⟨q1,q2,q3,q4,q5,q6⟩:=hP _ _ (aA hi) (aA bp);have ml:=dU _ (bO hi);have lO:=mB _ (bO bp);have iJ:=iJ _ (bO bp);obtain⟨b1,c1,d1⟩:=B8 n (els bs)[i].lo.ar (els bs)[i].lo.tu (by omega);obtain⟨b2,c2,d2⟩:=B8 n (els bs)[i].up.ar (els bs)[i].up.tu (by omega);obtain⟨b3,c3,d3⟩:=Cr (els bs)[i].lo.tu (els bs)[i].up.tu (els bs)[i].lo.ar (els bs)[i].up.ar (.inl rfl) ml.1 (by omega) (xq q4);obtain⟨df,c4,d4⟩:=Wd a (els fi)[i].so st hl h lO hn iJ ic;have Fu:(els (ll (lT n (els a) (els (els fi)[i].so) (n ^ (els (els fi)[i].so).length)))).length<4611686018427387904:=by
    rw[tT];have:=Om n (els a) (els (els fi)[i].so) (n ^ (els (els fi)[i].so).length);have:=tO ic lO.2.2;omega
   obtain⟨b5,c5,d5⟩:=Cr (els bs)[i].up.tu _ (els bs)[i].up.ar _ d4 ml.2 Fu (by rw[tT];exact Wc _ _ _ _);rw[tT] at d5;have r1:df.refs=[]:=by rcases d4 with rfl |rfl<;>rfl
   have r2:df.cJ=[]:=by rcases d4 with rfl |rfl<;>rfl
   have e1:=d1.2 q3;have e2:=d2.2 q4;have e3:=d3.2 q5;have e5:=d5.2 q6;subst e1;subst e2;subst e3;subst e5;rw[q1] at c1 c3;rw[q2] at c2 c3 c5;clear hP d1 d2 d3 d4 d5;simp[gp,aR,pM hi,lR bp,hi,q1,q2,c1,c2,c3,c4,c5,r1,r2,bw (k:=i) (by omega)])
  (fun i hi hP=>by
   conv in bd y9 0=>reduce
   have bp:i<(els fi).length:=by omega
   have ml:=dU _ (bO hi);have lO:=mB _ (bO bp);have iJ:=iJ _ (bO bp);by_cases q1:(els bs)[i].lo.ar=(els (els fi)[i].so).length
   ·by_cases q2:(els bs)[i].up.ar=(els (els fi)[i].so).length
    ·obtain⟨b1,c1,d1⟩:=B8 n (els bs)[i].lo.ar (els bs)[i].lo.tu (by omega);cases b1 with
     |false=>
      rw[q1] at c1;simp[gp,aR,pM hi,lR bp,hi,q1,q2,c1]
     |true=>
      obtain⟨b2,c2,d2⟩:=B8 n (els bs)[i].up.ar (els bs)[i].up.tu (by omega);cases b2 with
      |false=>
       rw[q1] at c1;rw[q2] at c2;simp[gp,aR,pM hi,lR bp,hi,q1,q2,c1,c2]
      |true=>
       have q3:=d1.1 rfl;have q4:=d2.1 rfl;obtain⟨b3,c3,d3⟩:=Cr (els bs)[i].lo.tu (els bs)[i].up.tu (els bs)[i].lo.ar (els bs)[i].up.ar (.inl rfl) ml.1 (by omega) (xq q4);cases b3 with
       |false=>
        rw[q1] at c1 c3;rw[q2] at c2 c3;simp[gp,aR,pM hi,lR bp,hi,q1,q2,c1,c2,c3]
       |true=>
        obtain⟨df,c4,d4⟩:=Wd a (els fi)[i].so st hl h lO hn iJ ic;have Fu:(els (ll (lT n (els a) (els (els fi)[i].so) (n ^ (els (els fi)[i].so).length)))).length<4611686018427387904:=by
         rw[tT];have:=Om n (els a) (els (els fi)[i].so) (n ^ (els (els fi)[i].so).length);have:=tO ic lO.2.2;omega
        obtain⟨b5,c5,d5⟩:=Cr (els bs)[i].up.tu _ (els bs)[i].up.ar _ d4 ml.2 Fu (by rw[tT];exact Wc _ _ _ _);rw[tT] at d5;cases b5 with
        |true=>
         refine absurd (fun b f h1 h2=>?_) hP;rw[aA hi] at h1;rw[aA bp] at h2;cases h1;cases h2;exact⟨q1,q2,q3,q4,d3.1 rfl,d5.1 rfl⟩
        |false=>
         have r1:df.refs=[]:=by rcases d4 with rfl |rfl<;>rfl
         have r2:df.cJ=[]:=by rcases d4 with rfl |rfl<;>rfl
         rw[q1] at c1 c3;rw[q2] at c2 c3 c5;simp[gp,aR,pM hi,lR bp,hi,q1,q2,c1,c2,c3,c4,c5,r1,r2]
    ·simp[gp,aR,pM hi,lR bp,hi,q1,q2]
   ·simp[gp,aR,pM hi,lR bp,hi,q1])
  (by
   conv in bd y9 0=>reduce
   simp[gp])
 have ae:=rf (bd y9 0)
 conv at ae=>rhs;reduce
 have hf:=rf y9
 conv at hf=>rhs;reduce
 rw[←ae] at hf;by_cases heq:(els bs).length=(els fi).length
 ·rcases key heq with⟨e,hx,-,hp⟩ |⟨e,hx,hr,hp⟩
  ·refine⟨true,aG (aa:=[_,_,_]) hf rfl rfl rfl ?_,iff_of_true rfl ⟨heq,hp⟩⟩;clear hf ae;simp at hx;simp[o1,o3,o4,gp,dg,heq,eX,hx]
  ·refine⟨false,aG (aa:=[_,_,_]) hf rfl rfl rfl ?_,iff_of_false (by simp) fun hh=>hp hh.2⟩;clear hf ae;simp at hx;simp[o1,o3,o4,gp,dg,heq,eX,hx,hr]
 ·refine⟨false,aG (aa:=[_,_,_]) hf rfl rfl rfl ?_,iff_of_false (by simp) fun hh=>heq hh.1⟩;clear hf ae;simp[o1,o3,o4,gp,dg,heq]
end Go.Proofs.YtgplgbonlnodeaaGreatDoor
namespace Go.Proofs.YtgplgbonlnodeaaGreatDoor
open Go.Vs
set_option maxRecDepth 100000
set_option maxHeartbeats 4000000
structure iF (sp:Sp) (a:Sl Int) (st:Int) (bs:Sl Bn):Prop where
 mC:nj sp
 sc:EP (els sp.so).length a st
 sm:(els a).sum≤4
 len:(els bs).length=(els sp.fi).length
 tu:∀b∈els bs,(els b.lo.tu).length≤64∧(els b.up.tu).length≤64
 bn:∀i,i<(els bs).length→∀b f,(els bs)[i]? =some b→(els sp.fi)[i]? =some f→Cs (els a).sum.toNat (els a) (els f.so) b
theorem ai6(sp:Sp)(a:Sl Int)(st:Int)(bs:Sl Bn)(fA:(els bs).length<4611686018427387904):
    (∃e,eu (call pg) pg.G [2,3,4,8] (bd sH 0) ⟨[(2,.p (bG bs)),(3,.box 0 0),(4,.box 1 0),(8,.p (.int .i64 0))],⟨[sp.cl.map .p,[.p (af a),.p (.int .i64 st)]],[]⟩⟩=some (.exit 0,⟨e,⟨[sp.cl.map .p,[.p (af a),.p (.int .i64 st)]],[]⟩⟩)∧(e.get 2= .p (bG bs)∧e.get 3= .box 0 0∧e.get 4= .box 1 0)∧∀i,i<(els bs).length→∀b,(els bs)[i]? =some b→(els b.lo.tu).length≤64∧(els b.up.tu).length≤64)∨
    (∃e,eu (call pg) pg.G [2,3,4,8] (bd sH 0) ⟨[(2,.p (bG bs)),(3,.box 0 0),(4,.box 1 0),(8,.p (.int .i64 0))],⟨[sp.cl.map .p,[.p (af a),.p (.int .i64 st)]],[]⟩⟩=some (.ret,⟨e,⟨[sp.cl.map .p,[.p (af a),.p (.int .i64 st)]],[]⟩⟩)∧e.get 6= .p (.bool false)):=by
 refine tM (c:=call pg) (G:=pg.G) (keep:=[2,3,4,8]) (b:=bd sH 0) (fun i=>[(2,.p (bG bs)),(3,.box 0 0),(4,.box 1 0),(8,.p (.int .i64 ((i:Nat):Int)))]) ⟨[sp.cl.map .p,[.p (af a),.p (.int .i64 st)]],[]⟩ (els bs).length (fun i=>∀b,(els bs)[i]? =some b→(els b.lo.tu).length≤64∧(els b.up.tu).length≤64) 0 (fun e=>e.get 2= .p (bG bs)∧e.get 3= .box 0 0∧e.get 4= .box 1 0) (fun e=>e.get 6= .p (.bool false)) ?_ ?_
 ·intro i hi;have aM:=pM hi;have k1:=bw (k:=i) (by omega);have hP:(els (els bs)[i].lo.tu).length≤64∧(els (els bs)[i].up.tu).length≤64→∀b,(els bs)[i]? =some b→(els b.lo.tu).length≤64∧(els b.up.tu).length≤64:=by
   intro h b hb;rw[aA hi] at hb;cases hb;exact h
  generalize (∀b,(els bs)[i]? =some b→(els b.lo.tu).length≤64∧(els b.up.tu).length≤64)=PP at *;generalize (els bs)[i]=q at *
  conv in bd sH 0=>reduce
  by_cases g1:(64 :Int)<((els q.lo.tu).length:Int)
  ·simp[gp,aR,hi,aM,g1]
  ·by_cases g2:(64 :Int)<((els q.up.tu).length:Int)
   ·simp[gp,aR,hi,aM,g1,g2]
   ·have hP:=hP ⟨by omega,by omega⟩;simp[gp,aR,hi,aM,g1,g2,k1,hP]
 ·skip
  conv in bd sH 0=>reduce
  simp[gp]
theorem Ct:∀l:List Int,(∀x∈l,0≤x)→0≤l.sum
 |[],_=>by simp
 |x::l,h=>by
  have h1:=h x pa;have h2:=Ct l fun y hy=>h y (jD _ hy);simp only[CS];omega
theorem OA:∀l:List Int,l≠[]→(∀x∈l,1≤x)→1≤l.sum
 |[],h,_=>absurd rfl h
 |x::l,_,h=>by
  have h1:=h x pa;have h2:=Ct l fun y hy=>by have:=h y (jD _ hy);omega
  simp only[CS];omega
theorem Ws(sp:Sp)(rB:xg sp)(hn:nY sp)(a:Sl Int)(st:Int)(bs:Sl Bn)(hl:(els a).length<4611686018427387904)(fA:(els bs).length<4611686018427387904)(dk:(els sp.so).length<4611686018427387904):
    ∃r:Bool,(∀H,av (call pg) 11 [.p (.agg sp.cl),.p (.agg [af a,.int .i64 st]),.p (bG bs)] H=some (.val (.p (.bool r)),H))∧(r=true→iF sp a st bs):=by
 obtain⟨r1,c1,d1⟩:=ag6 sp rB;have key:=ai6 sp a st bs fA;have fin:∀r:Bool,(r=true→iF sp a st bs)→post (gives true [.t 6] (.p (.bool r))) (ay (call pg) pg.G bf ((sH.map fun f=>f.body).getD .skip) ⟨entry 0 [.p (.agg sp.cl),.p (.agg [af a,.int .i64 st]),.p (bG bs)],⟨[],[]⟩⟩)→
     ∃r:Bool,(∀H,av (call pg) 11 [.p (.agg sp.cl),.p (.agg [af a,.int .i64 st]),.p (bG bs)] H=some (.val (.p (.bool r)),H))∧(r=true→iF sp a st bs):=by
  intro r h1 hr;have ae:=rf (bd sH 0)
  conv at ae=>rhs;reduce
  have hf:=rf sH
  conv at hf=>rhs;reduce
  rw[←ae] at hf;rw[hf] at hr;exact⟨r,aG (aa:=[_,_,_]) hf rfl rfl rfl hr,h1⟩
 have ae:=rf (bd sH 0)
 conv at ae=>rhs;reduce
 have hf:=rf sH
 conv at hf=>rhs;reduce
 rw[←ae] at hf;rw[hf] at fin;simp only[eA,kU] at fin;clear hf ae;cases r1 with
 |false=>
  refine fin false (fun h=>by cases h) ?_;clear fin key;simp[c1]
 |true=>
  have ok:=d1 rfl;clear d1;by_cases g1:(els bs).length=(els sp.fi).length
  ·obtain⟨r2,c2,d2⟩:=Vj (so:=jg sp.so) (f2:=bZ sp.fi) (f3:=jh sp.pr) (f4:=ji sp.fa) (n:=(els sp.so).length) (gT _) (by simp) (by simp) (by simp) (by simp) a st dk hl;cases r2 with
   |false=>
    refine fin false (fun h=>by cases h) ?_;clear fin key d2;simp[c1,gp,dg,g1,c2]
   |true=>
    have sc:=d2.1 rfl;clear d2;rcases key with⟨e,hx,⟨q2,q3,q4⟩,kT⟩ |⟨e,hx,q6⟩
    ·have Wt:=jA.1 kT;have si:=I9 a st (by have:=sc.1;have:=sc.2.1;omega) (fun x hx=>by have:=sc.2.2.2.2.1 x hx;omega);simp at hx;by_cases g2:(4 :Int)<(els a).sum
     ·refine fin false (fun h=>by cases h) ?_;clear fin kT sc;simp[c1,gp,dg,g1,c2,hx,q2,q3,q4,si,g2]
     ·obtain⟨y,k,hk,c3⟩:=aiu sp ok hn;by_cases g3:0<k
      ·refine fin false (fun h=>by cases h) ?_;clear fin kT sc;have g3':(0 :Int)<(k:Int):=by omega
       simp[c1,gp,dg,g1,c2,hx,q2,q3,q4,si,g2,c3,hk,g3]
      ·have g3':¬(0 :Int)<(k:Int):=by omega
       have Wu:=Ct (els a) fun x hx=>by have:=sc.2.2.2.2.1 x hx;omega
       obtain⟨r4,c4,d4⟩:=ai5 (so:=jg sp.so) (f3:=jh sp.pr) (f4:=ji sp.fa) (fi:=sp.fi) (a:=a) (st:=st) (bs:=bs) (n:=(els a).sum.toNat) (by simp) (by simp) (by simp) (by have:=ok.nf;omega) fA (by have:=sc.1;have:=sc.2.1;omega)
        (fun x hx=>by have:=sc.2.2.2.2.1 x hx;omega) (by omega) (by omega)
        (fun f hf=>by
         have lO:=ok.fd f hf;have aq:els a≠[]:=fun e0=>by
          have h1:=sc.1;rw[e0] at h1;have h3:0<(els f.so).length:=by have:=lO.2.1;omega
          have h2:=lO.1 _ (bO h3);simp at h1;omega
         have:=OA (els a) aq fun x hx=>(sc.2.2.2.2.1 x hx).1;omega)
        (fun f hf=>by rw[sc.1];exact ok.fd f hf) (fun b hb=>by have:=Wt b hb;omega)
       refine fin r4 (fun h=>⟨ok,sc,by omega,g1,Wt,(d4.1 h).2⟩) ?_;clear fin kT sc d4;simp[c1,gp,dg,g1,c2,hx,q2,q3,q4,si,g2,c3,hk,g3,c4]
    ·simp at hx;refine fin false (fun h=>by cases h) ?_;clear fin;simp[c1,gp,dg,g1,c2,hx,q6]
  ·refine fin false (fun h=>by cases h) ?_;clear fin key;have sN:¬((els bs).length:Int)=((els sp.fi).length:Int):=by omega
   simp[c1,gp,dg,sN]
theorem Wv{ats:List Int}{n:Int}(hn:1≤n)(s:Int):∀(l:List Int) (t:Int),0≤t→(jM ats n (l++[s]) t↔jM ats n l t∧fl ats 0 ((t/n ^ l.length)%n)=s)
 |[],t,ht=>by
  simp[jM,Kn ht]
 |a::l,t,ht=>by
  have ih:=Wv (ats:=ats) hn s l (t.tdiv n) (YP ht (by omega));have e:t.tdiv n/n ^ l.length=t/n ^ (a::l).length:=by
   rw[YQ ht,Int.ediv_ediv_of_nonneg (by omega),dZ,amP,amQ]
  rw[e] at ih;simp only[jN,jM,ih,and_assoc]
theorem Ww:∀(ats:List Int) (k x:Int),fl ats k x= -1∨k≤fl ats k x
 |[],_,_=>.inl rfl
 |a::r,k,x=>by
  simp only[fl];split
  ·exact .inr (YW _)
  ·rcases Ww r (k+1) (x-a) with h |h
   ·exact .inl h
   ·exact .inr (by omega)
theorem Wx{l:List Int}(h:∀x∈l,0≤x)(i:Nat):0≤(l.take i).sum:=Ct _ fun x hx=>h x (j8 hx)
theorem Wy:∀(ats:List Int) (k x:Int) (s:Nat),0≤x→0≤k→(∀a∈ats,0≤a)→s<ats.length→(fl ats k x=k+s↔(ats.take s).sum≤x∧x<(ats.take s).sum+ats.getD s 0)
 |[],_,_,s,_,_,_,hs=>by simp at hs
 |a::r,k,x,s,hx,hk,hp,hs=>by
  have hr:∀b∈r,0≤b:=fun b hb=>hp b (jD _ hb);have ha:=hp a pa;simp only[fl];cases s with
  |zero=>
   simp only[vT,List.sum_nil,YH];by_cases h:x<a
   ·rw[if_pos h];omega
   ·rw[if_neg h];have:=Ww r (k+1) (x-a);omega
  |succ s=>
   have Wu:=Wx hr s;simp only[YT,CS,PG];by_cases h:x<a
   ·rw[if_pos h];omega
   ·rw[if_neg h];have ih:=Wy r (k+1) (x-a) s (by omega) (by omega) hr (by simpa using hs);have :k+((s+1 :Nat):Int)=k+1+(s:Int):=by omega
    rw[this,ih];omega
theorem ai8{l:List Int}(h:∀x∈l,0≤x)(s:Nat)(hs:s<l.length):(l.take s).sum+l.getD s 0≤l.sum:=by
 have h1:l.sum=(l.take (s+1)).sum+(l.drop (s+1)).sum:=by rw[←Kk,xH]
 have h2:=sM (l:=l) hs;have h3:=Ct (l.drop (s+1)) fun x hx=>h x (sU hx);have h4:l.getD s 0=l[s]:=by simp[fE,aA hs]
 omega
theorem Wz{ats:List Int}(hp:∀x∈ats,0≤x∧x≤5)(hn:1≤ats.sum)(t:Int)(ht:0≤t):∀(so:List Int) (p:Int),(∀s∈so,0≤s∧s<(ats.length:Int))→0≤p→(p+1)*ats.sum ^ so.length<4611686018427387904→
    (t∈eW ats so p↔p*ats.sum ^ so.length≤t∧t<(p+1)*ats.sum ^ so.length∧jM ats ats.sum so.reverse t)
 |[],p,_,_,_=>by
  simp only[eW,mH,fW,Int.pow_zero,amR,List.reverse_nil,jM,and_true];omega
 |s::r,p,hs,h0,hb=>by
  have ra:∀x∈ats,0≤x:=fun x hx=>(hp x hx).1;obtain⟨s0,s1⟩:=hs s pa;obtain⟨k,rfl⟩:∃k:Nat,s=(k:Int):=⟨s.toNat,by omega⟩;have hk:k<ats.length:=by omega
  have hf:=Wx ra k;have hle:=ai8 ra k hk;have hA:0≤ats.getD k 0:=by
   rw[fE,aA hk];exact ra _ (bO hk)
  have hc:1≤ats.sum ^ r.length:=by
   have:=Int.pow_pos (n:=ats.sum) (m:=r.length) (by omega);omega
  have ai9:ats.sum ^ (((k:Int))::r).length=ats.sum*ats.sum ^ r.length:=by rw[dZ,amP,amQ]
  have Ll:=fun x hx=>Wy ats 0 x k hx (YW 0) ra hk;rw[ai9] at hb⊢;rw[List.reverse_cons,Wv hn _ _ _ ht,List.length_reverse];simp only[eW,FU,YF,qF];generalize (ats.take k).sum=f at *;generalize hAA:ats.getD k 0=A at *;have AE:=fun p' hr h0' cb=>Wz hp hn t ht r p' hr h0' cb;generalize eh:ats.sum ^ r.length=c at *;generalize Wu:ats.sum=n at *;have OB:(p+1)*(n*c)=(p*n+n)*c:=by rw[←amS,Int.add_mul,YX]
  have ajb:p*(n*c)=(p*n)*c:=by rw[←amS]
  have rC:0≤p*n:=Int.mul_nonneg h0 (by omega);have ap6:p*n+n<4611686018427387904:=by
   rw[OB] at hb;have:=Int.mul_le_mul_of_nonneg_left (a:=1) (b:=c) (c:=p*n+n) hc (by omega);rw[amR] at this;omega
  have key:∀j:Nat,j<A.toNat→(t∈eW ats r (IntKind.i64.wrap (IntKind.i64.wrap (p*n)+(f+(j:Int))))↔t/c=p*n+f+j∧jM ats n r.reverse t):=by
   intro j hj;have e:IntKind.i64.wrap (IntKind.i64.wrap (p*n)+(f+(j:Int)))=p*n+f+j:=by
    rw[wrap64 (n:=p*n) (by omega) (by omega),wrap64 (by omega) (by omega)];omega
   have aC:(p*n+f+j+1)*c<4611686018427387904:=by
    rw[OB] at hb;have:=Int.mul_le_mul_of_nonneg_right (a:=p*n+f+j+1) (b:=p*n+n) (c:=c) (by omega) (by omega);omega
   rw[e,AE _ (fun s l8=>hs s (jD _ l8)) (by omega) aC,←amT (by omega),←amU (by omega),←and_assoc];refine and_congr_left fun _=>?_;omega
  have hq:0≤t/c:=Int.ediv_nonneg ht (by omega);rw[ajb,OB,←amT (by omega),←amU (by omega)];have hm:=Ll (t/c%n) (YR _ (by omega));rw[YY] at hm;rw[hm];have yl:p*n≤t/c→t/c<p*n+n→t/c%n=t/c-p*n:=fun h1 h2=>by
   rw[←Int.sub_mul_emod_self_right (t/c) p n];exact Int.emod_eq_of_lt (by omega) (by omega)
  constructor
  ·rintro⟨j,hj,h⟩;obtain⟨h1,h2⟩:=(key j hj).1 h;refine⟨by omega,by omega,h2,?_⟩;rw[yl (by omega) (by omega)];omega
  ·rintro⟨h1,h2,h3,h4⟩;rw[yl h1 h2] at h4;refine⟨(t/c-p*n-f).toNat,by omega,(key _ (by omega)).2 ⟨by omega,h3⟩⟩
theorem WA:∀(l:List Nat) (m:Nat),(∀x∈l,x≤m)→l.sum≤l.length*m
 |[],_,_=>by simp
 |a::r,m,h=>by
  have h1:=h a pa;have h2:=WA r m fun x hx=>h x (jD _ hx);rw[CS,dZ,fM];omega
theorem WB{ats:List Int}(hp:∀x∈ats,0≤x∧x≤5):∀(so:List Int) (p:Int),(eW ats so p).length≤5 ^ so.length
 |[],p=>by simp[eW]
 |s::r,p=>by
  have h5:(ats.getD s.toNat 0).toNat≤5:=by
   rw[fE];cases h:ats[s.toNat]? with
   |none=>simp
   |some x=>have:=hp x (bS h);simp;omega
  simp only[eW];rw[List.length_flatMap];refine gA (WA _ (5 ^ r.length) fun x hx=>?_) ?_
  ·obtain⟨j,_,rfl⟩:=dz.1 hx;exact WB hp r _
  ·rw[cx,List.length_range,dZ,PL,Ag (5 ^ r.length)];exact kz _ h5
theorem ajc{ats so tu:List Int}(hp:∀x∈ats,0≤x∧x≤5)(hn:1≤ats.sum)(ic:ats.sum≤12)(mB:mo ats.length so)(hr:∀t∈tu,0≤t∧t<ats.sum ^ so.length):
    (∀t∈tu,t∈eW ats so 0)↔vC ats so tu:=by
 obtain⟨f1,f2,f3⟩:=mB;have hnO:fK ats=ats.sum:=by unfold fK;split<;>omega
 have oU:(0+1)*ats.sum ^ so.length<4611686018427387904:=by
  have h1:=tO (n:=ats.sum.toNat) (i:=so.length) (by omega) f3;have h2:((ats.sum.toNat ^ so.length:Nat):Int)=ats.sum ^ so.length:=by rw[CT,show((ats.sum.toNat:Nat):Int)=ats.sum by omega]
  rw[YY,YX,←h2];omega
 unfold vC;rw[hnO];refine forall_congr' fun t=>forall_congr' fun ht=>?_;have hb:=hr t ht;rw[Wz hp hn t hb.1 so 0 f1 (YW 0) oU];simp only[Int.zero_mul,YY,YX];exact⟨fun h=>h.2.2,fun h=>⟨hb.1,hb.2,h⟩⟩
def Cu(ats:List Int)(ss:List (Sl Rl))(i:Nat)(f:Fi)(r:Rl):Prop:=
 r.ar=(els f.so).length∧pN ats.sum r.ar (els r.tu)∧vC ats (els f.so) (els r.tu)∧
 (f.va=false→∀x0 r0,ss[0]? =some x0→(els x0)[i]? =some r0→r.ar=r0.ar∧els r.tu=els r0.tu)
variable {so f3 f4 : PD} {fi : Sl Fi} {a : Sl Int} {ss : Sl (Sl Rl)} {st lp : Int}
theorem WC(ij:(els a).length≤1000)(hp:∀x∈els a,1≤x∧x≤5)(nV:(els a).sum≤12){f:Fi}{r:Rl}(hf:mo (els a).length (els f.so))(hr:(els r.tu).length<1000000000)(uK:r.ar=(els f.so).length):
    ∃b1 b2:Bool,∃fu:PD,(∀H,av (call pg) 114 [.p (.int .i64 ((els a).sum)),.p (.agg [.int .i64 r.ar,af r.tu])] H=some (.val (.p (.bool b1)),H))∧
     (∀H,av (call pg) 116 [.p (.agg [af a,.int .i64 st]),.p (af f.so)] H=some (.val (.p fu),H))∧
     (∀H,av (call pg) 115 [.p (.agg [.int .i64 r.ar,af r.tu]),.p fu] H=some (.val (.p (.bool b2)),H))∧
     ((b1=true∧b2=true)↔pN (els a).sum r.ar (els r.tu)∧vC (els a) (els f.so) (els r.tu)):=by
 have OC:∀x∈els a,0≤x∧x≤5:=fun x hx=>by have:=hp x hx;omega
 obtain⟨b1,c1,d1⟩:=agN (els a).sum r.ar r.tu (by omega);have kG:(eW (els a) (els f.so) 0).length<1000000:=by
  have h1:=WB OC (els f.so) 0;have h2:5 ^ (els f.so).length≤5 ^ 3:=Nat.pow_le_pow_right (by omega) hf.2.2;omega
 have c2:=aiG a f.so st ij OC hf kG;obtain⟨b2,c3,d3⟩:=N8 r.tu (ll (eW (els a) (els f.so) 0)) r.ar (els f.so).length hr (by rw[tT];omega);refine⟨b1,b2,_,c1,c2,c3,?_⟩;rw[d1,d3,tT];have aq:els a≠[]:=fun e=>by
  obtain⟨g1,g2,g3⟩:=hf;cases bE:els f.so with
  |nil=>rw[bE] at g2;simp at g2
  |cons s l=>have:=g1 s (by rw[bE];exact pa);rw[e] at this;simp at this;omega
 have h1:=OA _ aq fun x hx=>(hp x hx).1;refine and_congr_right fun hrel=>?_;refine ajc OC h1 nV hf fun t ht=>?_;have:=ai4 hrel t ht;rw[uK] at this;simpa using this
theorem WD(_:so.one=true)(_:f3.one=true)(_:f4.one=true)(ij:(els a).length≤1000)(hp:∀x∈els a,1≤x∧x≤5)(nV:(els a).sum≤12)(xr:(els fi).length<4611686018427387904)(_:(els ss).length<4611686018427387904)
    (kT:∀x∈els ss,∀r∈els x,(els r.tu).length<1000000000) (mB:∀f∈els fi,mo (els a).length (els f.so)) (s:Nat) (hs:s<(els ss).length) (oP:(els (els ss)[s]).length=(els fi).length)
    (rC:0<(els ss).length) (h0:(els (els ss)[0]).length=(els fi).length):
    (∃e,eu (call pg) pg.G [2,3,5,9,56,57,58,69,70,71] (bd j2 2) ⟨[(2,.box 0 0),(3,.box 1 0),(5,.p (.int .i64 ((els a).sum))),(9,.p (iN (els ss)[s])),(56,.p (bK ss)),(57,.p (.int .i64 (((els ss).length:Nat):Int))),(58,.p (.int .i64 ((s:Nat):Int))),(69,.p (bZ fi)),(70,.p (.int .i64 (((els fi).length:Nat):Int))),(71,.p (.int .i64 0))],⟨[[.p so,.p (bZ fi),.p f3,.p f4],[.p (af a),.p (.int .i64 st),.p (bK ss),.p (.int .i64 lp)]],[]⟩⟩=
     some (.exit 4,⟨e,⟨[[.p so,.p (bZ fi),.p f3,.p f4],[.p (af a),.p (.int .i64 st),.p (bK ss),.p (.int .i64 lp)]],[]⟩⟩)∧(e.get 2= .box 0 0∧e.get 3= .box 1 0∧e.get 5= .p (.int .i64 ((els a).sum))∧e.get 56= .p (bK ss)∧e.get 57= .p (.int .i64 (((els ss).length:Nat):Int))∧e.get 58= .p (.int .i64 ((s:Nat):Int)))∧
     ∀i,i<(els fi).length→∀f r,(els fi)[i]? =some f→(els (els ss)[s])[i]? =some r→Cu (els a) (els ss) i f r)∨
    (∃e,eu (call pg) pg.G [2,3,5,9,56,57,58,69,70,71] (bd j2 2) ⟨[(2,.box 0 0),(3,.box 1 0),(5,.p (.int .i64 ((els a).sum))),(9,.p (iN (els ss)[s])),(56,.p (bK ss)),(57,.p (.int .i64 (((els ss).length:Nat):Int))),(58,.p (.int .i64 ((s:Nat):Int))),(69,.p (bZ fi)),(70,.p (.int .i64 (((els fi).length:Nat):Int))),(71,.p (.int .i64 0))],⟨[[.p so,.p (bZ fi),.p f3,.p f4],[.p (af a),.p (.int .i64 st),.p (bK ss),.p (.int .i64 lp)]],[]⟩⟩=
     some (.ret,⟨e,⟨[[.p so,.p (bZ fi),.p f3,.p f4],[.p (af a),.p (.int .i64 st),.p (bK ss),.p (.int .i64 lp)]],[]⟩⟩)∧e.get 4= .p (.bool false)∧
     ¬∀i,i<(els fi).length→∀f r,(els fi)[i]? =some f→(els (els ss)[s])[i]? =some r→Cu (els a) (els ss) i f r):=by
 have OD:=jf rC;simp at OD;refine ko (c:=call pg) (G:=pg.G) (keep:=[2,3,5,9,56,57,58,69,70,71]) (b:=bd j2 2) (fun i=>[(2,.box 0 0),(3,.box 1 0),(5,.p (.int .i64 ((els a).sum))),(9,.p (iN (els ss)[s])),(56,.p (bK ss)),(57,.p (.int .i64 (((els ss).length:Nat):Int))),(58,.p (.int .i64 ((s:Nat):Int))),(69,.p (bZ fi)),(70,.p (.int .i64 (((els fi).length:Nat):Int))),(71,.p (.int .i64 ((i:Nat):Int)))]) ⟨[[.p so,.p (bZ fi),.p f3,.p f4],[.p (af a),.p (.int .i64 st),.p (bK ss),.p (.int .i64 lp)]],[]⟩ (els fi).length
  (fun i=>∀f r,(els fi)[i]? =some f→(els (els ss)[s])[i]? =some r→Cu (els a) (els ss) i f r) 4 (fun e=>e.get 2= .box 0 0∧e.get 3= .box 1 0∧e.get 5= .p (.int .i64 ((els a).sum))∧e.get 56= .p (bK ss)∧e.get 57= .p (.int .i64 (((els ss).length:Nat):Int))∧e.get 58= .p (.int .i64 ((s:Nat):Int))) (fun e=>e.get 4= .p (.bool false)) ?_ ?_ ?_
 ·intro i hi hP;have pH:i<(els (els ss)[s]).length:=by omega
  have mZ:i<(els (els ss)[0]).length:=by omega
  obtain⟨p1,p2,p3,p4⟩:=hP _ _ (aA hi) (aA pH);have hr:=kT _ (bO hs) _ (bO pH);have p4':=fun hv=>p4 hv _ _ (aA rC) (aA mZ);obtain⟨b1,b2,fu,c1,c2,c3,hb⟩:=WC (st:=st) ij hp nV (mB _ (bO hi)) hr p1;obtain⟨rfl,rfl⟩:=hb.2 ⟨p2,p3⟩;obtain⟨b4,c4,d4⟩:=Vl (els (els ss)[s])[i].ar (els (els ss)[0])[i].ar (els (els ss)[s])[i].tu (els (els ss)[0])[i].tu (by omega);have zT:=lR hi;have zU:=mn pH;have OE:=mn mZ;clear hb p2 p3 hP p4;generalize (els fi)[i]=f at *;generalize (els (els ss)[s])[i]=r at *;generalize (els (els ss)[0])[i]=r0 at *;obtain⟨ar,tu⟩:=r;dsimp only at *;subst p1
  conv in bd j2 2=>reduce
  cases hv:f.va with
  |true=>
   simp[aR,hi,zT,zU,c1,c2,c3,hv,bw (k:=i) (by omega)]
  |false=>
   have:=d4.2 (p4' hv);subst this;simp[aR,hi,zT,zU,OD,OE,c1,c2,c3,c4,hv,bw (k:=i) (by omega)]
 ·intro i hi hP;have pH:i<(els (els ss)[s]).length:=by omega
  have mZ:i<(els (els ss)[0]).length:=by omega
  have hn:¬Cu (els a) (els ss) i (els fi)[i] (els (els ss)[s])[i]:=fun h=>hP fun f r hf hr=>by
   rw[aA hi] at hf;rw[aA pH] at hr;cases hf;cases hr;exact h
  clear hP;have hr:=kT _ (bO hs) _ (bO pH);have eh:=WC (r:=(els (els ss)[s])[i]) (st:=st) ij hp nV (mB _ (bO hi)) hr;obtain⟨b4,c4,d4⟩:=Vl (els (els ss)[s])[i].ar (els (els ss)[0])[i].ar (els (els ss)[s])[i].tu (els (els ss)[0])[i].tu (by omega);have zT:=lR hi;have zU:=mn pH;have OE:=mn mZ;have MP:(els (els ss)[s])[i].ar=(els (els fi)[i].so).length→pN (els a).sum (els (els ss)[s])[i].ar (els (els (els ss)[s])[i].tu)→vC (els a) (els (els fi)[i].so) (els (els (els ss)[s])[i].tu)→(els fi)[i].va=false∧b4=false:=by
   intro h1 h2 h3;cases hv:(els fi)[i].va with
   |true=>exact absurd ⟨h1,h2,h3,fun h=>by rw[hv] at h;cases h⟩ hn
   |false=>
    refine⟨rfl,?_⟩;rw[FR];intro hb;refine hn ⟨h1,h2,h3,fun _ x0 r0 rT oH=>?_⟩;rw[aA rC] at rT;cases rT;rw[aA mZ] at oH;cases oH;exact d4.1 hb
  clear hn d4;generalize (els fi)[i]=f at *;generalize (els (els ss)[s])[i]=r at *;generalize (els (els ss)[0])[i]=r0 at *;obtain⟨ar,tu⟩:=r;dsimp only at *
  conv in bd j2 2=>reduce
  by_cases p1:ar=(els f.so).length
  ·subst p1;obtain⟨b1,b2,fu,c1,c2,c3,hb⟩:=eh rfl;cases b1 with
   |false=>simp[aR,hi,zT,zU,c1]
   |true=>
    cases b2 with
    |false=>simp[aR,hi,zT,zU,c1,c2,c3]
    |true=>
     obtain⟨g1,g2⟩:=hb.1 ⟨rfl,rfl⟩;obtain⟨hv,rfl⟩:=MP rfl g1 g2;simp[aR,hi,zT,zU,OD,OE,c1,c2,c3,c4,hv]
  ·simp[aR,hi,zT,zU,p1]
 ·skip
  conv in bd j2 2=>reduce
  simp[]
end Go.Proofs.YtgplgbonlnodeaaGreatDoor
namespace Go.Proofs.YtgplgbonlnodeaaGreatDoor
open Go.Vs
set_option maxRecDepth 100000
def Fv(nf i:Nat)(n:Int)(ats so:List Int)(va:Bool)(ss:List (Sl Rl))(x:Sl Rl):Prop:=
 (els x).length=nf∧∀r,(els x)[i]? =some r→r.ar=so.length∧pN n r.ar (els r.tu)∧vC ats so (els r.tu)∧
  (va=false→∀x0 r0,ss[0]? =some x0→(els x0)[i]? =some r0→r.ar=r0.ar∧els r.tu=els r0.tu)
def OG(ns nf i:Nat)(ats:List Int)(ss:List (Sl Rl))(f:Fi):Prop:=mo ns (els f.so)∧∀x∈ss,Fv nf i ats.sum ats (els f.so) f.va ss x
def Fw(ns:Nat)(fi:List Fi)(a:Sl Int)(st:Int)(ss:List (Sl Rl))(lp:Int):Prop:=
 EP ns a st∧(ss.length:Int)=st∧0≤lp∧lp<st∧(∀i,i<fi.length→∀f,fi[i]? =some f→OG ns fi.length i (els a) ss f)∧∀x∈ss,(els x).length=fi.length
variable {so f3 f4 : PD} {ns : Nat} {fi : Sl Fi} {a : Sl Int} {ss : Sl (Sl Rl)} {st lp : Int}
theorem WE(_:so.one=true)(_:f3.one=true)(_:f4.one=true)(ha:(els a).length≤1000)(hp:∀x∈els a,0≤x∧x≤5)(ni:(els ss).length<4611686018427387904)
    (kT:∀x∈els ss,∀r∈els x,(els r.tu).length<4611686018427387904) (i:Nat) (hi:i<(els fi).length) (bE:(els (els fi)[i].so).length≤1000):
    (∃e,eu (call pg) pg.G [2,3,5,6,7,8] (bd jy 1) ⟨[(2,.box 0 0),(3,.box 1 0),(5,.p (.int .i64 ((els a).sum))),(6,.p (.int .i64 ((i:Nat):Int))),(7,.box 2 0),(8,.p (.int .i64 0))],⟨[[.p so,.p (bZ fi),.p f3,.p f4],[.p (af a),.p (.int .i64 st),.p (bK ss),.p (.int .i64 lp)],[.p (.str (els fi)[i].nm),.p (af (els fi)[i].so),.p (.bool (els fi)[i].va)]],[]⟩⟩=
     some (.exit 2,⟨e,⟨[[.p so,.p (bZ fi),.p f3,.p f4],[.p (af a),.p (.int .i64 st),.p (bK ss),.p (.int .i64 lp)],[.p (.str (els fi)[i].nm),.p (af (els fi)[i].so),.p (.bool (els fi)[i].va)]],[]⟩⟩)∧(e.get 2= .box 0 0∧e.get 3= .box 1 0∧e.get 5= .p (.int .i64 ((els a).sum))∧e.get 6= .p (.int .i64 ((i:Nat):Int)))∧
     ∀s,s<(els ss).length→∀x,(els ss)[s]? =some x→Fv (els fi).length i (els a).sum (els a) (els (els fi)[i].so) (els fi)[i].va (els ss) x)∨
    (∃e,eu (call pg) pg.G [2,3,5,6,7,8] (bd jy 1) ⟨[(2,.box 0 0),(3,.box 1 0),(5,.p (.int .i64 ((els a).sum))),(6,.p (.int .i64 ((i:Nat):Int))),(7,.box 2 0),(8,.p (.int .i64 0))],⟨[[.p so,.p (bZ fi),.p f3,.p f4],[.p (af a),.p (.int .i64 st),.p (bK ss),.p (.int .i64 lp)],[.p (.str (els fi)[i].nm),.p (af (els fi)[i].so),.p (.bool (els fi)[i].va)]],[]⟩⟩=
     some (.ret,⟨e,⟨[[.p so,.p (bZ fi),.p f3,.p f4],[.p (af a),.p (.int .i64 st),.p (bK ss),.p (.int .i64 lp)],[.p (.str (els fi)[i].nm),.p (af (els fi)[i].so),.p (.bool (els fi)[i].va)]],[]⟩⟩)∧e.get 4= .p (.bool false)∧
     ¬∀s,s<(els ss).length→∀x,(els ss)[s]? =some x→Fv (els fi).length i (els a).sum (els a) (els (els fi)[i].so) (els fi)[i].va (els ss) x):=by
 have aC:=rf (bd jy 2)
 conv at aC=>rhs;reduce
 have ai:=rf (bd jy 1)
 conv at ai=>rhs;reduce
 have ae:=rf (bd jy 0)
 conv at ae=>rhs;reduce
 rw[←ai] at ae;have hf:=rf jy
 conv at hf=>rhs;reduce
 rw[←aC] at hf;rw[←ai] at hf;rw[←ae] at hf;generalize zp:(els fi)[i]=f at *;refine I7 (c:=call pg) (G:=pg.G) (keep:=[2,3,5,6,7,8]) (b:=bd jy 1) (fun s=>[(2,.box 0 0),(3,.box 1 0),(5,.p (.int .i64 ((els a).sum))),(6,.p (.int .i64 ((i:Nat):Int))),(7,.box 2 0),(8,.p (.int .i64 ((s:Nat):Int)))]) ⟨[[.p so,.p (bZ fi),.p f3,.p f4],[.p (af a),.p (.int .i64 st),.p (bK ss),.p (.int .i64 lp)],[.p (.str f.nm),.p (af f.so),.p (.bool f.va)]],[]⟩ (els ss).length
  (fun s=>∀x,(els ss)[s]? =some x→Fv (els fi).length i (els a).sum (els a) (els f.so) f.va (els ss) x) 2 _ _ ?_ ?_ ?_
 ·intro s hs hI hP;obtain⟨p1,p2⟩:=qv hs hP;have bp:i<(els (els ss)[s]).length:=by omega
  obtain⟨q1,q2,q3,q4⟩:=p2 _ (aA bp);have hl:=kT _ (bO hs) _ (bO bp);obtain⟨b1,c1,d1⟩:=B8 (els a).sum (els (els ss)[s])[i].ar (els (els ss)[s])[i].tu hl;have e1:=d1.2 q2;subst e1;obtain⟨b2,c2,d2⟩:=Vm a f.so (els (els ss)[s])[i].tu st (els (els ss)[s])[i].ar ha hp bE (fun x hx=>by
   obtain⟨m1,m2,m3,m4,m5⟩:=q2;obtain⟨k,hk,rfl⟩:=p6 hx;have:=(m5 k hk).1 _ (aA hk);have oU:=tO (n:=(els a).sum.toNat) (i:=(els (els ss)[s])[i].ar.toNat) (by omega) (by omega);have :(els a).sum ^ (els (els ss)[s])[i].ar.toNat=(((els a).sum.toNat ^ (els (els ss)[s])[i].ar.toNat:Nat):Int):=by
    rw[CT,Yx m1]
   omega) hl
  have e2:=d2.2 q3;subst e2;have g0:0<(els ss).length:=by omega
  have xu:=jf hs;have Fx:=jf g0;simp only[gJ] at Fx;have zV:=mn bp;have hz:i<(els (els ss)[0]).length:=by
   rcases Kj s with h |h
   ·subst h;exact bp
   ·rw[(qv g0 (hI 0 h)).1];exact hi
  have OH:=mn hz;rw[ai];clear hf ae ai aC;cases pT:f.va with
  |true=>
   rw[q1] at c1 c2;simp[eJ,je,dg,aR,xu,zV,p1,hs,q1,c1,c2,bw (k:=s) (by omega)]
  |false=>
   obtain⟨q5,q6⟩:=q4 pT (els ss)[0] (els (els ss)[0])[i] (aA g0) (aA hz);obtain⟨b3,c3,d3⟩:=NU (els (els ss)[s])[i].tu (els (els ss)[0])[i].tu (els (els ss)[s])[i].ar (els (els ss)[0])[i].ar hl;have e3:=d3.2 ⟨q5,q6⟩;subst e3;rw[q1] at c1 c2 c3;simp[eJ,je,dg,aR,xu,Fx,zV,OH,p1,hs,q1,c1,c2,c3,bw (k:=s) (by omega)]
 ·intro s hs hI hP;have hP:=tP hs hP;have xu:=jf hs;rw[ai];clear hf ae ai aC;by_cases p1:(els (els ss)[s]).length=(els fi).length
  ·have bp:i<(els (els ss)[s]).length:=by omega
   have hl:=kT _ (bO hs) _ (bO bp);have zV:=mn bp;by_cases q1:(els (els ss)[s])[i].ar=(els f.so).length
   ·obtain⟨b1,c1,d1⟩:=B8 (els a).sum (els (els ss)[s])[i].ar (els (els ss)[s])[i].tu hl;cases b1 with
    |false=>
     rw[q1] at c1;simp[eJ,je,dg,aR,xu,zV,p1,hs,q1,c1]
    |true=>
     have q2:=d1.1 rfl;obtain⟨b2,c2,d2⟩:=Vm a f.so (els (els ss)[s])[i].tu st (els (els ss)[s])[i].ar ha hp bE (fun x hx=>by
      obtain⟨m1,m2,m3,m4,m5⟩:=q2;obtain⟨k,hk,rfl⟩:=p6 hx;have:=(m5 k hk).1 _ (aA hk);have oU:=tO (n:=(els a).sum.toNat) (i:=(els (els ss)[s])[i].ar.toNat) (by omega) (by omega);have :(els a).sum ^ (els (els ss)[s])[i].ar.toNat=(((els a).sum.toNat ^ (els (els ss)[s])[i].ar.toNat:Nat):Int):=by
       rw[CT,Yx m1]
      omega) hl
     cases b2 with
     |false=>
      rw[q1] at c1 c2;simp[eJ,je,dg,aR,xu,zV,p1,hs,q1,c1,c2]
     |true=>
      have q3:=d2.1 rfl;cases pT:f.va with
      |true=>
       refine absurd ⟨p1,fun r hr=>?_⟩ hP;rw[aA bp] at hr;cases hr;exact⟨q1,q2,q3,fun h=>by rw[pT] at h;cases h⟩
      |false=>
       have g0:0<(els ss).length:=by omega
       have Fx:=jf g0;simp only[gJ] at Fx;have hz:i<(els (els ss)[0]).length:=by
        rcases Kj s with h |h
        ·subst h;exact bp
        ·rw[(qv g0 (hI 0 h)).1];exact hi
       have OH:=mn hz;obtain⟨b3,c3,d3⟩:=NU (els (els ss)[s])[i].tu (els (els ss)[0])[i].tu (els (els ss)[s])[i].ar (els (els ss)[0])[i].ar hl;cases b3 with
       |false=>
        rw[q1] at c1 c2 c3;simp[eJ,je,dg,aR,xu,Fx,zV,OH,p1,hs,q1,c1,c2,c3]
       |true=>
        refine absurd ⟨p1,fun r hr=>?_⟩ hP;rw[aA bp] at hr;cases hr;refine⟨q1,q2,q3,fun _ x0 r0 h1 h2=>?_⟩;rw[aA g0] at h1;cases h1;rw[aA hz] at h2;cases h2;exact d3.1 rfl
   ·simp[eJ,je,dg,aR,xu,zV,p1,hs,q1]
  ·simp[eJ,je,dg,xu,p1,hs]
 ·rw[ai];clear hf ae ai aC;simp[eJ]
end Go.Proofs.YtgplgbonlnodeaaGreatDoor
namespace Go.Proofs.YtgplgbonlnodeaaGreatDoor
open Go.Vs
set_option maxRecDepth 100000
variable {so f3 f4 : PD} {ns : Nat} {fi : Sl Fi} {a : Sl Int} {ss : Sl (Sl Rl)} {st lp : Int}
theorem ajf(bE:fg 1 (.p so)=some ns)(o1:so.one=true)(o3:f3.one=true)(o4:f4.one=true)(uF:ns<4611686018427387904)(ha:(els a).length<4611686018427387904)(ni:(els ss).length<4611686018427387904)(xr:(els fi).length<4611686018427387904)
    (kT:∀x∈els ss,∀r∈els x,(els r.tu).length<4611686018427387904) (WG:∀f∈els fi,(els f.so).length<4611686018427387904):
    ∃r:Bool,(∀H,av (call pg) 26 [.p (.agg [so,bZ fi,f3,f4]),.p (.agg [af a,.int .i64 st,bK ss,.int .i64 lp])] H=some (.val (.p (.bool r)),H))∧
     (r=true↔Fw ns (els fi) a st (els ss) lp):=by
 obtain⟨b0,c0,d0⟩:=Vj bE o1 (EN fi) o3 o4 a st uF ha;have key:=fun(hp:∀x∈els a,0≤x∧x≤5) (ij:(els a).length≤1000)=>ko (c:=call pg) (G:=pg.G) (keep:=[2,3,5,6]) (b:=bd jy 0) (fun i=>[(2,.box 0 0),(3,.box 1 0),(5,.p (.int .i64 ((els a).sum))),(6,.p (.int .i64 ((i:Nat):Int)))])
  ⟨[[.p so,.p (bZ fi),.p f3,.p f4],[.p (af a),.p (.int .i64 st),.p (bK ss),.p (.int .i64 lp)]],[]⟩ (els fi).length
  (fun i=>∀f,(els fi)[i]? =some f→OG ns (els fi).length i (els a) (els ss) f) 0 (fun e=>e.get 2= .box 0 0∧e.get 3= .box 1 0) (fun e=>e.get 4= .p (.bool false))
  (fun i hi hP=>by
   have ai:=rf (bd jy 1)
   conv at ai=>rhs;reduce
   have ae:=rf (bd jy 0)
   conv at ae=>rhs;reduce
   rw[←ai] at ae;obtain⟨p1,p2⟩:=qv hi hP;have dU:(els (els fi)[i].so).length<4611686018427387904:=WG _ (bO hi);obtain⟨b1,c1,d1⟩:=Vn (nm:=.str (els fi)[i].nm) (va:=.bool (els fi)[i].va) bE o1 (EN fi) o3 o4 rfl rfl (els fi)[i].so dU;have e1:=d1.2 p1;subst e1;have hl:=WE (st:=st) (lp:=lp) o1 o3 o4 ij hp ni kT i hi (by have:=p1.2.2;omega);have aM:=lR hi;rcases hl with⟨e,hx,⟨h2,h3,h5,h6⟩,-⟩ |⟨e,hx,-,hn⟩
   ·rw[ae];clear ae ai;simp[dg,aM,hi,c1,hx,h2,h3,h5,h6,bw (k:=i) (by omega)]
   ·rw[jA] at hn;exact absurd p2 hn)
  (fun i hi hP=>by
   have aC:=rf (bd jy 2)
   conv at aC=>rhs;reduce
   have ai:=rf (bd jy 1)
   conv at ai=>rhs;reduce
   have ae:=rf (bd jy 0)
   conv at ae=>rhs;reduce
   rw[←ai] at ae;have hf:=rf jy
   conv at hf=>rhs;reduce
   rw[←aC] at hf;rw[←ai] at hf;rw[←ae] at hf;have hP:=tP hi hP;have dU:(els (els fi)[i].so).length<4611686018427387904:=WG _ (bO hi);obtain⟨b1,c1,d1⟩:=Vn (nm:=.str (els fi)[i].nm) (va:=.bool (els fi)[i].va) bE o1 (EN fi) o3 o4 rfl rfl (els fi)[i].so dU;have aM:=lR hi;cases b1 with
   |false=>
    rw[ae];clear hf ae ai aC;simp[dg,aM,hi,c1]
   |true=>
    have p1:=d1.1 rfl;have hl:=WE (st:=st) (lp:=lp) o1 o3 o4 ij hp ni kT i hi (by have:=p1.2.2;omega);rcases hl with⟨e,hx,-,hn⟩ |⟨e,hx,h4,-⟩
    ·rw[jA] at hn;exact absurd ⟨p1,hn⟩ hP
    ·rw[ae];clear hf ae ai aC;simp[dg,aM,hi,c1,hx,h4])
  (by
   have ai:=rf (bd jy 1)
   conv at ai=>rhs;reduce
   have ae:=rf (bd jy 0)
   conv at ae=>rhs;reduce
   rw[←ai] at ae;rw[ae];clear ae ai;simp[dg])
 have vD:=ko (c:=call pg) (G:=pg.G) (keep:=[2,3,10]) (b:=bd jy 2) (fun i=>[(2,.box 0 0),(3,.box 1 0),(10,.p (.int .i64 ((i:Nat):Int)))])
  ⟨[[.p so,.p (bZ fi),.p f3,.p f4],[.p (af a),.p (.int .i64 st),.p (bK ss),.p (.int .i64 lp)]],[]⟩ (els ss).length
  (fun i=>∀x,(els ss)[i]? =some x→(els x).length=(els fi).length) 4 (fun _=>True) (fun e=>e.get 4= .p (.bool false))
  (fun i hi hP=>by
   conv in bd jy 2=>reduce
   simp[eJ,je,dg,jf hi,hi,qv hi hP,bw (k:=i) (by omega)])
  (fun i hi hP=>by
   conv in bd jy 2=>reduce
   simp[eJ,je,dg,jf hi,hi,tP hi hP])
  (by
   conv in bd jy 2=>reduce
   simp[eJ])
 have aC:=rf (bd jy 2)
 conv at aC=>rhs;reduce
 have ai:=rf (bd jy 1)
 conv at ai=>rhs;reduce
 have ae:=rf (bd jy 0)
 conv at ae=>rhs;reduce
 rw[←ai] at ae;have hf:=rf jy
 conv at hf=>rhs;reduce
 rw[←aC] at hf;rw[←ai] at hf;rw[←ae] at hf;cases b0 with
 |false=>
  refine⟨false,aG (aa:=[_,_]) hf rfl rfl rfl ?_,iff_of_false (by simp) fun h=>by have:=d0.2 h.1;cases this⟩;clear hf ae ai aC;simp[o1,o3,o4,c0]
 |true=>
  have hsc:=d0.1 rfl;obtain⟨s1,s2,s3,s4,s5,s6⟩:=hsc;have eX:=I9 a st (by omega) fun x hx=>by have:=s5 x hx;omega
  by_cases h1:((els ss).length:Int)=st
  ·by_cases h2:lp<0
   ·refine⟨false,aG (aa:=[_,_]) hf rfl rfl rfl ?_,iff_of_false (by simp) fun h=>by have:=h.2.2.1;omega⟩;clear hf ae ai aC;simp[o1,o3,o4,c0,eJ,h1,h2]
   ·by_cases h3:st≤lp
    ·refine⟨false,aG (aa:=[_,_]) hf rfl rfl rfl ?_,iff_of_false (by simp) fun h=>by have:=h.2.2.2.1;omega⟩;clear hf ae ai aC;simp[o1,o3,o4,c0,eJ,h1,h2,h3]
    ·rcases key (fun x hx=>by have:=s5 x hx;omega) (by omega) with⟨e,hx,⟨h4,h5⟩,hq⟩ |⟨e,hx,h4,hq⟩
     ·rcases vD with⟨e',dB,-,jX⟩ |⟨e',dB,C3,jX⟩
      ·rw[jA] at jX;refine⟨true,aG (aa:=[_,_]) hf rfl rfl rfl ?_,iff_of_true rfl ⟨⟨s1,s2,s3,s4,s5,s6⟩,h1,by omega,by omega,hq,jX⟩⟩;clear hf ae ai aC;simp at hx dB;simp[o1,o3,o4,c0,eJ,h1,h2,h3,h4,h5,eX,hx,dB]
      ·rw[jA] at jX;refine⟨false,aG (aa:=[_,_]) hf rfl rfl rfl ?_,iff_of_false (by simp) fun h=>jX h.2.2.2.2.2⟩;clear hf ae ai aC;simp at hx dB;simp[o1,o3,o4,c0,eJ,h1,h2,h3,h4,h5,eX,hx,dB,C3]
     ·refine⟨false,aG (aa:=[_,_]) hf rfl rfl rfl ?_,iff_of_false (by simp) fun h=>hq h.2.2.2.2.1⟩;clear hf ae ai aC;simp at hx;simp[o1,o3,o4,c0,eJ,h1,h2,h3,h4,eX,hx]
  ·refine⟨false,aG (aa:=[_,_]) hf rfl rfl rfl ?_,iff_of_false (by simp) fun h=>h1 h.2.1⟩;clear hf ae ai aC;simp[o1,o3,o4,c0,eJ,h1]
end Go.Proofs.YtgplgbonlnodeaaGreatDoor
namespace Go.Proofs.YtgplgbonlnodeaaGreatDoor
open Go.Vs
set_option maxRecDepth 100000
def qd(ats:List Int)(fi:List Fi)(ss:List (Sl Rl))(x:Sl Rl):Prop:=
 (els x).length=fi.length∧∀i,i<fi.length→∀f r,fi[i]? =some f→(els x)[i]? =some r→Cu ats ss i f r
theorem Cv{ns:Nat}{fi:List Fi}{a:Sl Int}{st:Int}{ss:List (Sl Rl)}{lp:Int}(mB:∀f∈fi,mo ns (els f.so)):
    Fw ns fi a st ss lp↔EP ns a st∧(ss.length:Int)=st∧0≤lp∧lp<st∧∀x∈ss,qd (els a) fi ss x:=by
 unfold Fw qd OG Fv Cu;refine and_congr_right fun _=>and_congr_right fun _=>and_congr_right fun _=>and_congr_right fun _=>?_;constructor
 ·rintro⟨h1,h2⟩ x hx;refine⟨h2 x hx,fun i hi f r hf hr=>?_⟩;exact((h1 i hi f hf).2 x hx).2 r hr
 ·intro h;refine⟨fun i hi f hf=>⟨mB f (bS hf),fun x hx=>⟨(h x hx).1,fun r hr=>(h x hx).2 i hi f r hf hr⟩⟩,fun x hx=>(h x hx).1⟩
variable {so f3 f4 : PD} {ns : Nat} {fi : Sl Fi} {a : Sl Int} {ss : Sl (Sl Rl)} {st lp : Int}
theorem WH(bE:fg 1 (.p so)=some ns)(o1:so.one=true)(o3:f3.one=true)(o4:f4.one=true)(uF:ns<4611686018427387904)(ha:(els a).length<4611686018427387904)(ni:(els ss).length<4611686018427387904)(xr:(els fi).length<4611686018427387904)
    (kT:∀x∈els ss,∀r∈els x,(els r.tu).length<1000000000) (mB:∀f∈els fi,mo ns (els f.so)):
    ∃r:Bool,(∀H,av (call pg) 66 [.p (.agg [so,bZ fi,f3,f4]),.p (.agg [af a,.int .i64 st,bK ss,.int .i64 lp])] H=some (.val (.p (.bool r)),H))∧
     (r=true↔Fw ns (els fi) a st (els ss) lp):=by
 rw[Cv mB];obtain⟨b0,c0,d0⟩:=agH bE o1 (EN fi) o3 o4 a st uF ha;have qx:=ko (c:=call pg) (G:=pg.G) (keep:=[2,3,5,44,45,46]) (b:=bd j2 0) (fun i=>[(2,.box 0 0),(3,.box 1 0),(5,.p (.int .i64 ((els a).sum))),(44,.p (bZ fi)),(45,.p (.int .i64 (((els fi).length:Nat):Int))),(46,.p (.int .i64 ((i:Nat):Int)))])
  ⟨[[.p so,.p (bZ fi),.p f3,.p f4],[.p (af a),.p (.int .i64 st),.p (bK ss),.p (.int .i64 lp)]],[]⟩ (els fi).length
  (fun _=>True) 0 (fun e=>e.get 2= .box 0 0∧e.get 3= .box 1 0∧e.get 5= .p (.int .i64 ((els a).sum))) (fun _=>True)
  (fun i hi _=>by
   have hm:=mB _ (bO hi);obtain⟨b1,c1,d1⟩:=ahc (nm:=.str (els fi)[i].nm) (va:=.bool (els fi)[i].va) bE o1 (EN fi) o3 o4 rfl rfl (els fi)[i].so (by have:=hm.2.2;omega);have:=d1.2 hm;subst this;have aM:=lR hi;generalize (els fi)[i]=f at *
   conv in bd j2 0=>reduce
   simp[aM,hi,c1,bw (k:=i) (by omega)])
  (fun i hi h=>absurd trivial h)
  (by
   conv in bd j2 0=>reduce
   simp[])
 have vD:=fun(hp:∀x∈els a,1≤x∧x≤5) (ij:(els a).length=ns) (hn:ns≤4) (nV:(els a).sum≤12)=>I7 (c:=call pg) (G:=pg.G) (keep:=[2,3,5,56,57,58]) (b:=bd j2 1) (fun s=>[(2,.box 0 0),(3,.box 1 0),(5,.p (.int .i64 ((els a).sum))),(56,.p (bK ss)),(57,.p (.int .i64 (((els ss).length:Nat):Int))),(58,.p (.int .i64 ((s:Nat):Int)))])
  ⟨[[.p so,.p (bZ fi),.p f3,.p f4],[.p (af a),.p (.int .i64 st),.p (bK ss),.p (.int .i64 lp)]],[]⟩ (els ss).length
  (fun s=>∀x,(els ss)[s]? =some x→qd (els a) (els fi) (els ss) x) 2 (fun _=>True) (fun e=>e.get 4= .p (.bool false))
  (fun s hs eQ hP=>by
   have rC:0<(els ss).length:=by omega
   obtain⟨g1,g2⟩:=qv hs hP;have g0:(els (els ss)[0]).length=(els fi).length:=by
    rcases Kj s with rfl |h
    ·exact g1
    ·exact(eQ 0 h _ (aA rC)).1
   have dr:=WD (st:=st) (lp:=lp) o1 o3 o4 (by omega) hp nV xr ni kT (fun f hf=>by rw[ij];exact mB f hf) s hs g1 rC g0;rcases dr with⟨e,hx,⟨q2,q3,q5,q56,q57,q58⟩,-⟩ |⟨e,hx,-,hn⟩
   ·have aM:=jf hs;generalize (els ss)[s]=x at *;clear eQ hP;have aC:=rf (bd j2 2)
    conv at aC=>rhs;reduce
    have ai:=rf (bd j2 1)
    conv at ai=>rhs;reduce
    rw[←aC] at ai;rw[ai];clear ai aC;simp[je,dg,aM,hs,g1,hx,q2,q3,q5,q56,q57,q58,bw (k:=s) (by omega)]
   ·exact absurd g2 hn)
  (fun s hs eQ hP=>by
   have rC:0<(els ss).length:=by omega
   have hP:=tP hs hP;have aM:=jf hs;by_cases g1:(els (els ss)[s]).length=(els fi).length
   ·have g0:(els (els ss)[0]).length=(els fi).length:=by
     rcases Kj s with rfl |h
     ·exact g1
     ·exact(eQ 0 h _ (aA rC)).1
    have dr:=WD (st:=st) (lp:=lp) o1 o3 o4 (by omega) hp nV xr ni kT (fun f hf=>by rw[ij];exact mB f hf) s hs g1 rC g0;rcases dr with⟨e,hx,-,hn⟩ |⟨e,hx,q4,-⟩
    ·exact absurd ⟨g1,hn⟩ hP
    ·generalize (els ss)[s]=x at *;clear eQ hP;have aC:=rf (bd j2 2)
     conv at aC=>rhs;reduce
     have ai:=rf (bd j2 1)
     conv at ai=>rhs;reduce
     rw[←aC] at ai;rw[ai];clear ai aC;simp[je,dg,aM,hs,g1,hx,q4]
   ·have sN:¬((els (els ss)[s]).length:Int)=((els fi).length:Int):=by omega
    generalize (els ss)[s]=x at *;clear eQ hP;have aC:=rf (bd j2 2)
    conv at aC=>rhs;reduce
    have ai:=rf (bd j2 1)
    conv at ai=>rhs;reduce
    rw[←aC] at ai;rw[ai];clear ai aC;simp[je,dg,aM,hs,sN])
  (by
   have aC:=rf (bd j2 2)
   conv at aC=>rhs;reduce
   have ai:=rf (bd j2 1)
   conv at ai=>rhs;reduce
   rw[←aC] at ai;rw[ai];clear ai aC;simp[])
 have aC:=rf (bd j2 2)
 conv at aC=>rhs;reduce
 have ai:=rf (bd j2 1)
 conv at ai=>rhs;reduce
 rw[←aC] at ai;have ae:=rf (bd j2 0)
 conv at ae=>rhs;reduce
 have hf:=rf j2
 conv at hf=>rhs;reduce
 rw[←aC] at hf;rw[←ai] at hf;rw[←ae] at hf;cases b0 with
 |false=>
  refine⟨false,aG (aa:=[_,_]) hf rfl rfl rfl ?_,iff_of_false (by simp) fun h=>by have:=d0.2 h.1;cases this⟩;clear hf ae ai aC;simp[o1,o3,o4,c0]
 |true=>
  have hsc:=d0.1 rfl;obtain⟨s1,s2,s3,s4,s5,s6⟩:=hsc;have eX:=Vk a st (by omega) fun x hx=>by have:=s5 x hx;omega
  by_cases h1:((els ss).length:Int)=st
  ·by_cases h2:lp<0
   ·refine⟨false,aG (aa:=[_,_]) hf rfl rfl rfl ?_,iff_of_false (by simp) fun h=>by have:=h.2.2.1;omega⟩;clear hf ae ai aC;simp[o1,o3,o4,c0,eJ,h1,h2]
   ·by_cases h3:st≤lp
    ·refine⟨false,aG (aa:=[_,_]) hf rfl rfl rfl ?_,iff_of_false (by simp) fun h=>by have:=h.2.2.2.1;omega⟩;clear hf ae ai aC;simp[o1,o3,o4,c0,eJ,h1,h2,h3]
    ·rcases qx with⟨e,hx,⟨q2,q3,q5⟩,-⟩ |⟨e,hx,-,hq⟩
     ·rcases vD s5 s1 s2 s6 with⟨e',dB,-,jX⟩ |⟨e',dB,Ob,jX⟩
      ·rw[jA] at jX;refine⟨true,aG (aa:=[_,_]) hf rfl rfl rfl ?_,iff_of_true rfl ⟨⟨s1,s2,s3,s4,s5,s6⟩,h1,by omega,by omega,jX⟩⟩;clear hf ae ai aC;simp[h1] at hx dB;simp[o1,o3,o4,c0,eJ,dg,h1,h2,h3,q2,q3,q5,eX,hx,dB]
      ·rw[jA] at jX;refine⟨false,aG (aa:=[_,_]) hf rfl rfl rfl ?_,iff_of_false (by simp) fun h=>jX h.2.2.2.2⟩;clear hf ae ai aC;simp[h1] at hx dB;simp[o1,o3,o4,c0,eJ,dg,h1,h2,h3,q2,q3,q5,eX,hx,dB,Ob]
     ·exact absurd (fun _ _=>trivial) hq
  ·refine⟨false,aG (aa:=[_,_]) hf rfl rfl rfl ?_,iff_of_false (by simp) fun h=>h1 h.2.1⟩;clear hf ae ai aC;simp[o1,o3,o4,c0,eJ,h1]
end Go.Proofs.YtgplgbonlnodeaaGreatDoor
namespace Go.Proofs.YtgplgbonlnodeaaGreatDoor
open Go.Vs
set_option maxRecDepth 100000
theorem WI(lo up tu:Sl Int)(la ua ar:Int)(h1:(els lo).length<1000000000)(h2:(els up).length<1000000000)(h3:(els tu).length<1000000000):
    ∃r:Bool,(∀H,av (call pg) 120 [.p (.agg [.int .i64 la,af lo,.int .i64 ua,af up]),.p (.agg [.int .i64 ar,af tu])] H=some (.val (.p (.bool r)),H))∧(r=true↔zR lo up la ua ar tu):=by
 obtain⟨r1,c1,d1⟩:=N8 lo tu la ar h1 (by omega);obtain⟨r2,c2,d2⟩:=N8 tu up ar ua h3 (by omega);have hf:=rf TW
 conv at hf=>rhs;reduce
 unfold zR;rw[←d1,←d2];by_cases g1:la=ar
 ·subst g1;by_cases g2:ua=la
  ·subst g2;refine⟨r1&&r2,aG (aa:=[_,_]) hf rfl rfl rfl ?_,by simp⟩;clear hf;cases r1 with
   |false=>simp[c1]
   |true=>simp[c1,c2]
  ·refine⟨false,aG (aa:=[_,_]) hf rfl rfl rfl ?_,iff_of_false (by simp) fun h=>g2 h.2.1⟩;clear hf;simp[g2]
 ·refine⟨false,aG (aa:=[_,_]) hf rfl rfl rfl ?_,iff_of_false (by simp) fun h=>g1 h.1⟩;clear hf;simp[g1]
theorem ajj(bs:Sl Bn)(x:Sl Rl)(hb:(els bs).length<4611686018427387904)(h1:∀b∈els bs,(els b.lo.tu).length<1000000000∧(els b.up.tu).length<1000000000)(h3:∀r∈els x,(els r.tu).length<1000000000):
    ∃r:Bool,(∀H,av (call pg) 119 [.p (bG bs),.p (iN x),.fn 120 [] []] H=some (.val (.p (.bool r)),H))∧(r=true↔xp (els bs) x):=by
 by_cases hl:(els bs).length=(els x).length
 ·have key:=ko (c:=call pg) (G:=pg.G) (keep:=[0,1,2,14,15]) (b:=bd vp 0) (fun i=>[(0,.p (bG bs)),(1,.p (iN x)),(2,.fn 120 [] []),(14,.p (.int .i64 (((els bs).length:Nat):Int))),(15,.p (.int .i64 ((i:Nat):Int)))]) ⟨[],[]⟩ (els bs).length
   (fun i=>∀b r,(els bs)[i]? =some b→(els x)[i]? =some r→zR b.lo.tu b.up.tu b.lo.ar b.up.ar r.ar r.tu) 0 (fun _=>True) (fun e=>e.get 6= .p (.bool false))
   (fun i hi hP=>by
    have bp:i<(els x).length:=by omega
    have hP:=hP _ _ (aA hi) (aA bp);have hq:=h1 _ (bO hi);obtain⟨r,c1,d1⟩:=WI (els bs)[i].lo.tu (els bs)[i].up.tu (els x)[i].tu (els bs)[i].lo.ar (els bs)[i].up.ar (els x)[i].ar hq.1 hq.2 (h3 _ (bO bp));have:=d1.2 hP;subst this;have aM:=pM hi;have qo:=mn bp;clear hP d1;generalize (els bs)[i]=b at *;generalize (els x)[i]=r at *
    conv in bd vp 0=>reduce
    simp[aM,qo,hi,c1,bw (k:=i) (by omega)])
   (fun i hi hP=>by
    have bp:i<(els x).length:=by omega
    have hP:¬zR (els bs)[i].lo.tu (els bs)[i].up.tu (els bs)[i].lo.ar (els bs)[i].up.ar (els x)[i].ar (els x)[i].tu:=fun h=>hP fun b r hb hr=>by
     rw[aA hi] at hb;rw[aA bp] at hr;cases hb;cases hr;exact h
    have hq:=h1 _ (bO hi);obtain⟨r,c1,d1⟩:=WI (els bs)[i].lo.tu (els bs)[i].up.tu (els x)[i].tu (els bs)[i].lo.ar (els bs)[i].up.ar (els x)[i].ar hq.1 hq.2 (h3 _ (bO bp));have :r=false:=by
     rw[FR];exact fun h=>hP (d1.1 h)
    subst this;have aM:=pM hi;have qo:=mn bp;clear hP d1;generalize (els bs)[i]=b at *;generalize (els x)[i]=r at *
    conv in bd vp 0=>reduce
    simp[aM,qo,hi,c1])
   (by
    conv in bd vp 0=>reduce
    simp)
  have ae:=rf (bd vp 0)
  conv at ae=>rhs;reduce
  have hf:=rf vp
  conv at hf=>rhs;reduce
  rw[←ae] at hf;rcases key with⟨e,hx,-,hp⟩ |⟨e,hx,q6,hp⟩
  ·refine⟨true,tN hf rfl rfl rfl rfl rfl rfl ?_,iff_of_true rfl ⟨hl.symm,hp⟩⟩;clear hf ae;simp[hl] at hx;simp[gp,je,hl,hx]
  ·refine⟨false,tN hf rfl rfl rfl rfl rfl rfl ?_,iff_of_false (by simp) fun h=>hp h.2⟩;clear hf ae;simp[hl] at hx;simp[gp,je,hl,hx,q6]
 ·skip
  have ae:=rf (bd vp 0)
  conv at ae=>rhs;reduce
  have hf:=rf vp
  conv at hf=>rhs;reduce
  rw[←ae] at hf;refine⟨false,tN hf rfl rfl rfl rfl rfl rfl ?_,iff_of_false (by simp) fun h=>hl h.1.symm⟩;clear hf ae;have nG:¬((els bs).length:Int)=((els x).length:Int):=by omega
  simp[gp,je,nG]
theorem WJ(bs:Sl Bn)(x:Sl Rl)(hb:(els bs).length<4611686018427387904)(h1:∀b∈els bs,(els b.lo.tu).length<1000000000∧(els b.up.tu).length<1000000000)(h3:∀r∈els x,(els r.tu).length<1000000000):
    ∃r:Bool,av (call pg) 118 [.p (iN x),.box 0 0] ⟨[[.p (bG bs)]],[]⟩=some (.val (.p (.bool (!r))),⟨[[.p (bG bs)]],[]⟩)∧(r=true↔xp (els bs) x):=by
 obtain⟨r,c1,d1⟩:=ajj bs x hb h1 h3;refine⟨r,?_,d1⟩;have h:call pg 118 [.p (iN x),.box 0 0] ⟨[[.p (bG bs)]],[]⟩=some (.val (.p (.bool (!r))),⟨[[.p (bG bs)]],[]⟩):=by
  have hf:=rf TV
  conv at hf=>rhs;reduce
  refine Gl rfl hf rfl rfl ?_;clear hf;simp[c1]
 simp[av,reach,ef,fX,ins,Vs.nodupB,idx,D.aD,D.bz,D.refs,D.cJ,D.ba,D.ren,aP,h,back,gM,bt.ren,cq]
theorem WK(bs:Sl Bn)(a:Sl Int)(ss:Sl (Sl Rl))(st lp:Int)(hb:(els bs).length<4611686018427387904)(ni:(els ss).length<4611686018427387904)(h1:∀b∈els bs,(els b.lo.tu).length<1000000000∧(els b.up.tu).length<1000000000)(h3:∀x∈els ss,∀r∈els x,(els r.tu).length<1000000000):
    ∃r:Bool,(∀H,av (call pg) 67 [.p (bG bs),.p (.agg [af a,.int .i64 st,bK ss,.int .i64 lp])] H=some (.val (.p (.bool r)),H))∧(r=true↔∀x∈els ss,xp (els bs) x):=by
 have key:=ko (c:=call pg) (G:=pg.G) (keep:=[0,1,7,8]) (b:=bd yZ 0) (fun i=>[(0,.p (bK ss)),(1,.fn 118 [] [.box 0 0]),(7,.p (.int .i64 (((els ss).length:Nat):Int))),(8,.p (.int .i64 ((i:Nat):Int)))]) ⟨[[.p (bG bs)]],[]⟩ (els ss).length
  (fun i=>∀x,(els ss)[i]? =some x→xp (els bs) x) 0 (fun _=>True) (fun e=>∃j:Nat,e.get 4= .p (.int .i64 ((j:Nat):Int)))
  (fun i hi hP=>by
   obtain⟨r,c1,d1⟩:=WJ bs (els ss)[i] hb h1 (h3 _ (bO hi));have:=d1.2 (qv hi hP);subst this;have aM:=jf hi;generalize (els ss)[i]=x at *
   conv in bd yZ 0=>reduce
   simp at c1;simp[aM,hi,c1,bw (k:=i) (by omega)])
  (fun i hi hP=>by
   obtain⟨r,c1,d1⟩:=WJ bs (els ss)[i] hb h1 (h3 _ (bO hi));have :r=false:=by
    rw[FR];exact fun h=>tP hi hP (d1.1 h)
   subst this;have aM:=jf hi;generalize (els ss)[i]=x at *;refine aX (Q:=fun o e H=>o= .ret∧H=⟨[[.p (bG bs)]],[]⟩∧e.get 4= .p (.int .i64 ((i:Nat):Int))) ?_ fun o e H h=>⟨h.1,h.2.1,i,h.2.2⟩
   conv in bd yZ 0=>reduce
   simp at c1;simp[aM,hi,c1])
  (by
   conv in bd yZ 0=>reduce
   simp)
 have c1:∃k:Int,call pg 179 [.p (bK ss),.fn 118 [] [.box 0 0]] ⟨[[.p (bG bs)]],[]⟩=some (.val (.p (.int .i64 k)),⟨[[.p (bG bs)]],[]⟩)∧(k<0↔∀x∈els ss,xp (els bs) x):=by
  have ae:=rf (bd yZ 0)
  conv at ae=>rhs;reduce
  have hf:=rf yZ
  conv at hf=>rhs;reduce
  rw[←ae] at hf;rcases key with⟨e,hx,-,hp⟩ |⟨e,hx,⟨j,h4⟩,hp⟩
  ·rw[jA] at hp;refine⟨-1,zH (cs:=[bG bs]) hf rfl rfl rfl ?_,iff_of_true (by omega) hp⟩;clear hf ae;simp at hx;simp[eJ,hx]
  ·rw[jA] at hp;refine⟨(j:Int),zH (cs:=[bG bs]) hf rfl rfl rfl ?_,iff_of_false (by omega) hp⟩;clear hf ae;simp at hx;simp[eJ,hx,h4]
 obtain⟨k,c1,d1⟩:=c1;have c2:av (call pg) 179 [.p (bK ss),.fn 118 [] [.box 0 0]] ⟨[[.p (bG bs)]],[]⟩=some (.val (.p (.int .i64 k)),⟨[[.p (bG bs)]],[]⟩):=by
  simp[av,reach,ef,fX,ins,Vs.nodupB,idx,D.aD,D.bz,D.refs,D.cJ,D.ba,D.ren,aP,c1,back,gM,bt.ren,cq]
 have c3:call pg 121 [.p (bK ss),.fn 118 [] [.box 0 0]] ⟨[[.p (bG bs)]],[]⟩=some (.val (.p (.bool (decide (0≤k)))),⟨[[.p (bG bs)]],[]⟩):=by
  have hf:=rf TX
  conv at hf=>rhs;reduce
  refine zH (cs:=[bG bs]) hf rfl rfl rfl ?_;clear hf;simp[c2]
 have c4:∀x,av (call pg) 121 [.p (bK ss),.fn 118 [] [.box 0 0]] ⟨[[.p (bG bs)],x],[]⟩=some (.val (.p (.bool (decide (0≤k)))),⟨[[.p (bG bs)],x],[]⟩):=fun x=>by
  simp[av,reach,ef,fX,ins,Vs.nodupB,idx,D.aD,D.bz,D.refs,D.cJ,D.ba,D.ren,aP,c3,back,gM,bt.ren,cq]
 refine⟨decide (k<0),?_,by rw[decide_eq_true_eq];exact d1⟩;have hf:=rf TQ
 conv at hf=>rhs;reduce
 refine aG (aa:=[_,_]) hf rfl rfl rfl ?_;clear hf;simp[c4];by_cases hk:k<0
 ·have :¬0≤k:=by omega
  simp[hk,this]
 ·have :0≤k:=by omega
  simp[hk,this]
attribute [local irreducible] oT oR oS eW
variable {so f3 f4 : PD} {fi : Sl Fi} {a ma : Sl Int} {bs : Sl Bn} {st xv lp : Int} {ss : Sl (Sl Rl)} {ns : Nat}
theorem ajk(o1:so.one=true)(o3:f3.one=true)(o4:f4.one=true)(cC:1≤st∧st≤4)
    (fA:(els bs).length=(els fi).length) (hl:(els bs).length≤1000) (hu:∀b∈els bs,(els b.up.tu).length≤900∧(els b.lo.tu).length≤900) (hs:∀b∈els bs,dw (els b.lo.tu))
    (kT:∀x∈els ss,∀r∈els x,(els r.tu).length<1000000000) (eH:∀x∈els ss,∀r∈els x,dw (els r.tu)) (oP:∀x∈els ss,(els x).length=(els fi).length) (dk:((els ss).length:Int)=st) (eR:0≤lp∧lp<st)
    (rE:∀H,av (call pg) 65 [.p (af ma),.p (af a)] H=some (.val (.p (.bool true)),H))
    (vI:∀H,av (call pg) 66 [.p (.agg [so,bZ fi,f3,f4]),.p (.agg [af ma,.int .i64 st,bK ss,.int .i64 lp])] H=some (.val (.p (.bool true)),H))
    (Cw:∀H,av (call pg) 67 [.p (bG bs),.p (.agg [af ma,.int .i64 st,bK ss,.int .i64 lp])] H=some (.val (.p (.bool true)),H)):
    ∀H,av (call pg) 18 [.p (.agg [so,bZ fi,f3,f4]),.p (.agg [af a,.int .i64 st]),.p (bG bs),.p (.agg [af ma,.int .i64 st,bK ss,.int .i64 lp])] H=
     some (.val (.bA [.p (dy (pS (fL (els fi) (els bs) st lp (els ss)))),.p (.bool true)]),H):=by
 have Fy:=Oq (fi:=fi) (a:=a) (st:=st) o1 o3 o4 hl hu hs;have OI:=Wn (f3:=f3) (f4:=f4) (a:=a) o1 cC.2 fA hl fun b hb=>(hu b hb).1;have hg:=Ov (so:=so) (f3:=f3) (f4:=f4) (a:=a) cC.2 fA hl fun b hb=>(hu b hb).1;have hv:∀(j:Nat) e,(dX (els fi) (els bs) st)[j]? =some e→e.1=aW st+j+1:=Cp ((els fi).map Fi.va) (cB 0 (els bs)) st.toNat 0 (aW st);have ey:∀e∈dX (els fi) (els bs) st,e.2.1<st.toNat∧∃k:Nat,e.2.2.1=(k:Int)∧k<(els fi).length:=fun e he=>by
  obtain⟨_,h2,h3⟩:=xn _ _ _ _ _ e he;obtain⟨k,h4,_,h5⟩:=zQ _ _ _ h3;exact⟨by omega,k,h4,by omega⟩
 have hLl:(dX (els fi) (els bs) st).length≤4*(1000*900):=by
  have rV:(cB 0 (els bs)).length≤1000*900:=by
   have h1:=Ci (els bs) 0 900 fun b hb=>(hu b hb).1;have h5:(els bs).length*900≤1000*900:=kz 900 hl;omega
  have h1:=Fo ((els fi).map Fi.va) (cB 0 (els bs)) st.toNat 0 (aW st);have h2:st.toNat*(cB 0 (els bs)).length≤4*(1000*900):=ug (by omega) rV;exact gA h1 h2
 have hz:=aiY (dX (els fi) (els bs) st) (nZ (els ss)) st lp eR;have cg:=Fs st lp;have hN0:1<st→st.toNat=aW st:=fun h=>by unfold aW;rw[if_pos h]
 have hN4:aW st≤4:=by unfold aW;split<;>omega
 have dY:=fun(H:Hp) (h:H.bx[3]? =some (lr (fL (els fi) (els bs) st lp (els ss))))=>ai2 h true;have gP:(fL (els fi) (els bs) st lp (els ss)).length=aW st+(dX (els fi) (els bs) st).length:=by
  unfold fL;rw[iq,cx,cg]
 rw[gP] at dY;have ju:sQ (preB st lp) (dX (els fi) (els bs) st) (nZ (els ss)) (dX (els fi) (els bs) st).length=fL (els fi) (els bs) st lp (els ss):=aiX _ _ _;have Fz:∀(s k:Nat) (hs:s<(els ss).length) (hk:k<(els (els ss)[s]).length) (v:Nat) (t:Int),decide (t∈els ((els (els ss)[s])[k]).tu)=nZ (els ss) (v,s,(k:Int),t):=fun s k hs hk v t=>by
  simp only[nZ,aA hs,Cq,qF,aA hk]
 unfold pR at OI;generalize iE so f3 f4 fi a st bs (mr (cB 0 (els bs)))=C at *;generalize fL (els fi) (els bs) st lp (els ss)=E at *;generalize dX (els fi) (els bs) st=L at *;have nS:=fun H=>aiU (n:=aW st+L.length) (by omega) H;have tJ:=fun j (h:j≤L.length)=>aiV (preB st lp) L (nZ (els ss)) h;have D2:=fun j e (h:L[j]? =some e)=>aiW (preB st lp) L (nZ (els ss)) h;rw[cg] at tJ D2;generalize sQ (preB st lp) L (nZ (els ss))=B at *;generalize hN:aW st=v0 at *;have aq:∀m:Nat,¬(3+2*m=2):=fun m=>by omega
 have mZ:1<st→IntKind.i64.wrap (IntKind.i64.wrap (st-lp)-1)=(((st-lp-1).toNat:Nat):Int)∧(st-lp-1).toNat<v0+L.length:=fun h=>by
  have:=hN0 h;rw[wrap64 (n:=st-lp) (by omega) (by omega),wrap64 (by omega) (by omega)];exact⟨by omega,by omega⟩
 generalize (st-lp-1).toNat=i0 at *;have fZ:v0+L.length≤4000000:=by omega
 have wF:∀j,j<L.length→v0+j<v0+L.length:=fun j h=>by omega
 generalize v0+L.length=n at *;have hZl:(eB n false).length=n:=CQ;generalize eB n false=Z at *;have hf:=rf Bg
 conv at hf=>rhs;reduce
 refine aG (aa:=[_,_,_,_]) hf rfl rfl rfl ?_;clear hf;by_cases h1:1<st
 ·obtain⟨w1,w2⟩:=mZ h1;have FA:=Ox (b:=3) (c:=some n) w2;have hcut:=Ow (l:=Z) (i:=i0) true (by omega);rw[if_pos h1] at hz;rw[←hz] at hcut;have w3:i0+1≤Z.length:=by omega
  simp[-aU,On,JB,Fq,Fp,JA,rE,vI,Cw,Fy,OI,o1,o3,o4,nS,h1,hg,w1,FA,w3,hcut];refine Jk (fun j H=>∃rest:List (List D),H=⟨[.p so,.p (bZ fi),.p f3,.p f4]::[.p (af a),.p (.int .i64 st)]::[.p (af ma),.p (.int .i64 st),.p (bK ss),.p (.int .i64 lp)]::lr (B j)::[.bu 3 0 n (some n) 1]::rest,[]⟩∧∀cs∈rest,∃ys:List PD,cs=ys.map D.p) ⟨[],rfl,by simp⟩ ?_ ?_
  ·rintro j x H fT ⟨rest,rfl,oJ⟩;rw[cP] at fT;cases ht:L[j]? with
   |none=>rw[ht] at fT;cases fT
   |some e=>
    rw[ht] at fT;cases fT;refine⟨rfl,?_⟩;have hj:=(az.1 ht).1;have he:=hv j e ht;obtain⟨iL,k,iK,bW⟩:=ey e (bS ht);have eg:=D2 j e ht;have ajo:=tJ j (by omega);obtain⟨e1,s,e3,t⟩:=e;dsimp only at he iL iK bW;subst he iK;have pF:s<(els ss).length:=by omega
    have su:k<(els (els ss)[s]).length:=by rw[oP _ (bO pF)];exact bW
    have j1:=bO pF;have kL:=bO su;obtain⟨kk,-,FB⟩:=Oo (els (els ss)[s])[k].tu t (by have:=kT _ j1 _ kL;omega) (eH _ j1 _ kL);have mW:=Fz s k pF su (v0+j+1) t;rw[mW] at FB;have oE:=wF j hj;have aM:=jf pF;have qo:=mn su;generalize nZ (els ss) (v0+j+1,s,(k:Int),t)=bb at *;generalize (els (els ss)[s])[k]=r at *;generalize (els ss)[s]=xs at *;generalize v0+j=i1 at *;have hw:IntKind.i64.wrap (i1:Int)=(i1:Int):=wrap64 (by omega) (by omega);have FA:=Ox (b:=3) (c:=some n) oE;have hcut:=Ow (l:=B j) (i:=i1) bb (by omega);have w3:i1+1≤(B j).length:=by omega
    rw[eg] at hcut;simp[-aU,-dJ,JB,Fq,Fp,JA,sG,mN,oy,D.aD,D.refs,ins,qX,xl,hw,FA,aM,qo,FB,w3,hcut,aq];refine Wp (by simp) rfl ?_ fun e=>⟨rfl,rest++[[.p (.int .i64 ((i1:Int)+1)),.p (.int .i64 ((s:Nat):Int)),.p (.int .i64 ((k:Nat):Int)),.p (.int .i64 t)]],rfl,fun cs ak=>?_⟩
    ·intro cs ak;rcases cN.1 ak with rfl |ak
     ·exact iM _ _ [_,_,_,_]
     rcases cN.1 ak with rfl |ak
     ·exact iM _ _ [_,_]
     rcases cN.1 ak with rfl |ak
     ·exact iM _ _ [_,_,_,_]
     rcases cN.1 ak with rfl |ak
     ·exact Wo _ _ _
     rcases cN.1 ak with rfl |ak
     ·simp[D.ba,D.ren,below]
     rcases cW.1 ak with ak |ak
     ·obtain⟨ys,rfl⟩:=oJ cs ak;exact iM _ _ ys
     ·rw[mH.1 ak];exact iM _ _ [_,_,_,_]
    ·rcases cW.1 ak with ak |ak
     ·exact oJ cs ak
     ·exact⟨[_,_,_,_],mH.1 ak⟩
  ·rintro H ⟨rest,rfl,oJ⟩;rw[cx];have dY:=dY ⟨[.p so,.p (bZ fi),.p f3,.p f4]::[.p (af a),.p (.int .i64 st)]::[.p (af ma),.p (.int .i64 st),.p (bK ss),.p (.int .i64 lp)]::lr E::[.bu 3 0 n (some n) 1]::rest,[]⟩ rfl;simp[-aU,Fq,ju,dY,aP]
 ·rw[if_neg h1] at hz;rw[←hz] at nS;simp[-aU,On,JB,rE,vI,Cw,Fy,OI,o1,o3,o4,nS,h1,hg];refine Jk (fun j H=>∃rest:List (List D),H=⟨[.p so,.p (bZ fi),.p f3,.p f4]::[.p (af a),.p (.int .i64 st)]::[.p (af ma),.p (.int .i64 st),.p (bK ss),.p (.int .i64 lp)]::lr (B j)::[.bu 3 0 n (some n) 1]::rest,[]⟩∧∀cs∈rest,∃ys:List PD,cs=ys.map D.p) ⟨[],rfl,by simp⟩ ?_ ?_
  ·rintro j x H fT ⟨rest,rfl,oJ⟩;rw[cP] at fT;cases ht:L[j]? with
   |none=>rw[ht] at fT;cases fT
   |some e=>
    rw[ht] at fT;cases fT;refine⟨rfl,?_⟩;have hj:=(az.1 ht).1;have he:=hv j e ht;obtain⟨iL,k,iK,bW⟩:=ey e (bS ht);have eg:=D2 j e ht;have ajo:=tJ j (by omega);obtain⟨e1,s,e3,t⟩:=e;dsimp only at he iL iK bW;subst he iK;have pF:s<(els ss).length:=by omega
    have su:k<(els (els ss)[s]).length:=by rw[oP _ (bO pF)];exact bW
    have j1:=bO pF;have kL:=bO su;obtain⟨kk,-,FB⟩:=Oo (els (els ss)[s])[k].tu t (by have:=kT _ j1 _ kL;omega) (eH _ j1 _ kL);have mW:=Fz s k pF su (v0+j+1) t;rw[mW] at FB;have oE:=wF j hj;have aM:=jf pF;have qo:=mn su;generalize nZ (els ss) (v0+j+1,s,(k:Int),t)=bb at *;generalize (els (els ss)[s])[k]=r at *;generalize (els ss)[s]=xs at *;generalize v0+j=i1 at *;have hw:IntKind.i64.wrap (i1:Int)=(i1:Int):=wrap64 (by omega) (by omega);have FA:=Ox (b:=3) (c:=some n) oE;have hcut:=Ow (l:=B j) (i:=i1) bb (by omega);have w3:i1+1≤(B j).length:=by omega
    rw[eg] at hcut;simp[-aU,-dJ,JB,Fq,Fp,JA,sG,mN,oy,D.aD,D.refs,ins,qX,xl,hw,FA,aM,qo,FB,w3,hcut,aq];refine Wp (by simp) rfl ?_ fun e=>⟨rfl,rest++[[.p (.int .i64 ((i1:Int)+1)),.p (.int .i64 ((s:Nat):Int)),.p (.int .i64 ((k:Nat):Int)),.p (.int .i64 t)]],rfl,fun cs ak=>?_⟩
    ·intro cs ak;rcases cN.1 ak with rfl |ak
     ·exact iM _ _ [_,_,_,_]
     rcases cN.1 ak with rfl |ak
     ·exact iM _ _ [_,_]
     rcases cN.1 ak with rfl |ak
     ·exact iM _ _ [_,_,_,_]
     rcases cN.1 ak with rfl |ak
     ·exact Wo _ _ _
     rcases cN.1 ak with rfl |ak
     ·simp[D.ba,D.ren,below]
     rcases cW.1 ak with ak |ak
     ·obtain⟨ys,rfl⟩:=oJ cs ak;exact iM _ _ ys
     ·rw[mH.1 ak];exact iM _ _ [_,_,_,_]
    ·rcases cW.1 ak with ak |ak
     ·exact oJ cs ak
     ·exact⟨[_,_,_,_],mH.1 ak⟩
  ·rintro H ⟨rest,rfl,oJ⟩;rw[cx];have dY:=dY ⟨[.p so,.p (bZ fi),.p f3,.p f4]::[.p (af a),.p (.int .i64 st)]::[.p (af ma),.p (.int .i64 st),.p (bK ss),.p (.int .i64 lp)]::lr E::[.bu 3 0 n (some n) 1]::rest,[]⟩ rfl;simp[-aU,Fq,ju,dY,aP]
end Go.Proofs.YtgplgbonlnodeaaGreatDoor
namespace Go.Proofs.YtgplgbonlnodeaaGreatDoor
open Go.Vs
set_option maxRecDepth 100000
attribute [local irreducible] oT oR oS eW
variable {so f3 f4 : PD} {fi : Sl Fi} {a ma : Sl Int} {bs : Sl Bn} {st xv lp : Int} {ss : Sl (Sl Rl)} {ns : Nat}
theorem ajp(o1:so.one=true)(o3:f3.one=true)(o4:f4.one=true)
    (h1:¬xv=st):
    ∀H,av (call pg) 18 [.p (.agg [so,bZ fi,f3,f4]),.p (.agg [af a,.int .i64 st]),.p (bG bs),.p (.agg [af ma,.int .i64 xv,bK ss,.int .i64 lp])] H=
     some (.val (.bA [.p .aI,.p (.bool false)]),H):=by
 have hf:=rf Bg
 conv at hf=>rhs;reduce
 refine aG (aa:=[_,_,_,_]) hf rfl rfl rfl ?_;clear hf;simp[h1,o1,o3,o4]
theorem ajq(o1:so.one=true)(o3:f3.one=true)(o4:f4.one=true)
    (rE:∀H,av (call pg) 65 [.p (af ma),.p (af a)] H=some (.val (.p (.bool false)),H)):
    ∀H,av (call pg) 18 [.p (.agg [so,bZ fi,f3,f4]),.p (.agg [af a,.int .i64 st]),.p (bG bs),.p (.agg [af ma,.int .i64 st,bK ss,.int .i64 lp])] H=
     some (.val (.bA [.p .aI,.p (.bool false)]),H):=by
 have hf:=rf Bg
 conv at hf=>rhs;reduce
 refine aG (aa:=[_,_,_,_]) hf rfl rfl rfl ?_;clear hf;simp[o1,o3,o4,rE]
theorem ajr(o1:so.one=true)(o3:f3.one=true)(o4:f4.one=true)
    (rE:∀H,av (call pg) 65 [.p (af ma),.p (af a)] H=some (.val (.p (.bool true)),H))
    (vI:∀H,av (call pg) 66 [.p (.agg [so,bZ fi,f3,f4]),.p (.agg [af ma,.int .i64 st,bK ss,.int .i64 lp])] H=some (.val (.p (.bool false)),H)):
    ∀H,av (call pg) 18 [.p (.agg [so,bZ fi,f3,f4]),.p (.agg [af a,.int .i64 st]),.p (bG bs),.p (.agg [af ma,.int .i64 st,bK ss,.int .i64 lp])] H=
     some (.val (.bA [.p .aI,.p (.bool false)]),H):=by
 have hf:=rf Bg
 conv at hf=>rhs;reduce
 refine aG (aa:=[_,_,_,_]) hf rfl rfl rfl ?_;clear hf;simp[o1,o3,o4,rE,vI]
theorem ajs(o1:so.one=true)(o3:f3.one=true)(o4:f4.one=true)
    (rE:∀H,av (call pg) 65 [.p (af ma),.p (af a)] H=some (.val (.p (.bool true)),H))
    (vI:∀H,av (call pg) 66 [.p (.agg [so,bZ fi,f3,f4]),.p (.agg [af ma,.int .i64 st,bK ss,.int .i64 lp])] H=some (.val (.p (.bool true)),H))
    (Cw:∀H,av (call pg) 67 [.p (bG bs),.p (.agg [af ma,.int .i64 st,bK ss,.int .i64 lp])] H=some (.val (.p (.bool false)),H)):
    ∀H,av (call pg) 18 [.p (.agg [so,bZ fi,f3,f4]),.p (.agg [af a,.int .i64 st]),.p (bG bs),.p (.agg [af ma,.int .i64 st,bK ss,.int .i64 lp])] H=
     some (.val (.bA [.p .aI,.p (.bool false)]),H):=by
 have hf:=rf Bg
 conv at hf=>rhs;reduce
 refine aG (aa:=[_,_,_,_]) hf rfl rfl rfl ?_;clear hf;simp[o1,o3,o4,rE,vI,Cw]
theorem ajt(o1:so.one=true)(o3:f3.one=true)(o4:f4.one=true){r1 r2 r3:Bool}
    (rE:∀H,av (call pg) 65 [.p (af ma),.p (af a)] H=some (.val (.p (.bool r1)),H))
    (vI:∀H,av (call pg) 66 [.p (.agg [so,bZ fi,f3,f4]),.p (.agg [af ma,.int .i64 xv,bK ss,.int .i64 lp])] H=some (.val (.p (.bool r2)),H))
    (Cw:∀H,av (call pg) 67 [.p (bG bs),.p (.agg [af ma,.int .i64 xv,bK ss,.int .i64 lp])] H=some (.val (.p (.bool r3)),H))
    (eU:¬(xv=st∧r1=true∧r2=true∧r3=true)):
    ∀H,av (call pg) 18 [.p (.agg [so,bZ fi,f3,f4]),.p (.agg [af a,.int .i64 st]),.p (bG bs),.p (.agg [af ma,.int .i64 xv,bK ss,.int .i64 lp])] H=
     some (.val (.bA [.p .aI,.p (.bool false)]),H):=by
 by_cases h1:xv=st
 ·subst h1;cases r1 with
  |false=>exact ajq o1 o3 o4 rE
  |true=>
   cases r2 with
   |false=>exact ajr o1 o3 o4 rE vI
   |true=>
    cases r3 with
    |false=>exact ajs o1 o3 o4 rE vI Cw
    |true=>exact absurd ⟨rfl,rfl,rfl,rfl⟩ eU
 ·exact ajp o1 o3 o4 h1
end Go.Proofs.YtgplgbonlnodeaaGreatDoor
namespace Go.Proofs.YtgplgbonlnodeaaGreatDoor
open Go.Vs
set_option maxRecDepth 100000
variable {so f3 f4 : PD} {ns : Nat} {fi : Sl Fi} {a : Sl Int} {ss : Sl (Sl Rl)} {st lp : Int}
def WL(ns:Nat)(fi:List Fi)(a:List Int)(ss:List (Sl Rl)):Prop:=
 ns≤10∧fi.length≤10∧ss.length≤64∧a.length≤10∧(∀x∈ss,(els x).length≤10∧∀r∈els x,(els r.tu).length≤200)∧∀f∈fi,(els f.so).length≤10
theorem aju(bE:fg 1 (.p so)=some ns)(o1:so.one=true)(o3:f3.one=true)(o4:f4.one=true):
    ∃r:Bool,(∀H,av (call pg) 12 [.p (.agg [so,bZ fi,f3,f4]),.p (.agg [af a,.int .i64 st,bK ss,.int .i64 lp])] H=some (.val (.p (.bool r)),H))∧
     (r=true↔WL ns (els fi) (els a) (els ss)):=by
 have qx:=fun(i:Nat) (hi:i<(els ss).length) (hl:(els (els ss)[i]).length≤10)=>ko (c:=call pg) (G:=pg.G) (keep:=[2,3,5,6]) (b:=bd kn 1) (fun k=>[(2,.box 0 0),(3,.box 1 0),(5,.p (.int .i64 ((i:Nat):Int))),(6,.p (.int .i64 ((k:Nat):Int)))])
  ⟨[[.p so,.p (bZ fi),.p f3,.p f4],[.p (af a),.p (.int .i64 st),.p (bK ss),.p (.int .i64 lp)]],[]⟩ (els (els ss)[i]).length
  (fun k=>∀r,(els (els ss)[i])[k]? =some r→(els r.tu).length≤200) 2 (fun e=>e.get 2= .box 0 0∧e.get 3= .box 1 0∧e.get 5= .p (.int .i64 ((i:Nat):Int))) (fun e=>e.get 4= .p (.bool false))
  (fun k hk hP=>by
   conv in bd kn 1=>reduce
   have h1:=qv hk hP;have h2:¬(200 :Int)<((els (els (els ss)[i])[k].tu).length:Int):=by omega
   simp[je,aR,jf hi,mn hk,hk,h2,bw (k:=k) (by omega)])
  (fun k hk hP=>by
   conv in bd kn 1=>reduce
   have h1:=tP hk hP;have h2:(200 :Int)<((els (els (els ss)[i])[k].tu).length:Int):=by omega
   simp[je,aR,jf hi,mn hk,hk,h2])
  (by
   conv in bd kn 1=>reduce
   simp[je,jf hi])
 have key:=fun(ni:(els ss).length≤64)=>ko (c:=call pg) (G:=pg.G) (keep:=[2,3,5]) (b:=bd kn 0) (fun i=>[(2,.box 0 0),(3,.box 1 0),(5,.p (.int .i64 ((i:Nat):Int)))])
  ⟨[[.p so,.p (bZ fi),.p f3,.p f4],[.p (af a),.p (.int .i64 st),.p (bK ss),.p (.int .i64 lp)]],[]⟩ (els ss).length
  (fun i=>∀x,(els ss)[i]? =some x→(els x).length≤10∧∀r∈els x,(els r.tu).length≤200) 0 (fun e=>e.get 2= .box 0 0) (fun e=>e.get 4= .p (.bool false))
  (fun i hi hP=>by
   have ai:=rf (bd kn 1)
   conv at ai=>rhs;reduce
   have ae:=rf (bd kn 0)
   conv at ae=>rhs;reduce
   rw[←ai] at ae;obtain⟨p1,p2⟩:=qv hi hP;have h2:¬(10 :Int)<((els (els ss)[i]).length:Int):=by omega
   rcases qx i hi p1 with⟨e,hx,⟨g2,g3,g5⟩,-⟩ |⟨e,hx,-,hn⟩
   ·rw[ae];clear ae ai;simp at hx;simp[eJ,je,jf hi,hi,h2,hx,g2,g3,g5,bw (k:=i) (by omega)]
   ·rw[jA] at hn;exact absurd p2 hn)
  (fun i hi hP=>by
   have aC:=rf (bd kn 2)
   conv at aC=>rhs;reduce
   have ai:=rf (bd kn 1)
   conv at ai=>rhs;reduce
   have ae:=rf (bd kn 0)
   conv at ae=>rhs;reduce
   rw[←ai] at ae;have hf:=rf kn
   conv at hf=>rhs;reduce
   rw[←aC] at hf;rw[←ai] at hf;rw[←ae] at hf;have hP:=tP hi hP;by_cases p1:(els (els ss)[i]).length≤10
   ·have h2:¬(10 :Int)<((els (els ss)[i]).length:Int):=by omega
    rcases qx i hi p1 with⟨e,hx,-,hn⟩ |⟨e,hx,g4,-⟩
    ·rw[jA] at hn;exact absurd ⟨p1,hn⟩ hP
    ·rw[ae];clear hf ae ai aC;simp at hx;simp[eJ,je,jf hi,hi,h2,hx,g4]
   ·have h2:(10 :Int)<((els (els ss)[i]).length:Int):=by omega
    rw[ae];clear hf ae ai aC;simp[eJ,je,jf hi,hi,h2])
  (by
   have ai:=rf (bd kn 1)
   conv at ai=>rhs;reduce
   have ae:=rf (bd kn 0)
   conv at ae=>rhs;reduce
   rw[←ai] at ae;rw[ae];clear ae ai;simp[eJ])
 have vD:=fun(xr:(els fi).length≤10)=>ko (c:=call pg) (G:=pg.G) (keep:=[2,7]) (b:=bd kn 2) (fun i=>[(2,.box 0 0),(7,.p (.int .i64 ((i:Nat):Int)))])
  ⟨[[.p so,.p (bZ fi),.p f3,.p f4],[.p (af a),.p (.int .i64 st),.p (bK ss),.p (.int .i64 lp)]],[]⟩ (els fi).length
  (fun i=>∀x,(els fi)[i]? =some x→(els x.so).length≤10) 4 (fun _=>True) (fun e=>e.get 4= .p (.bool false))
  (fun i hi hP=>by
   conv in bd kn 2=>reduce
   have h1:=qv hi hP;have h2:¬(10 :Int)<((els (els fi)[i].so).length:Int):=by omega
   simp[dg,aR,lR hi,hi,h2,bw (k:=i) (by omega)])
  (fun i hi hP=>by
   conv in bd kn 2=>reduce
   have h1:=tP hi hP;have h2:(10 :Int)<((els (els fi)[i].so).length:Int):=by omega
   simp[dg,aR,lR hi,hi,h2])
  (by
   conv in bd kn 2=>reduce
   simp[dg])
 have aC:=rf (bd kn 2)
 conv at aC=>rhs;reduce
 have ai:=rf (bd kn 1)
 conv at ai=>rhs;reduce
 have ae:=rf (bd kn 0)
 conv at ae=>rhs;reduce
 rw[←ai] at ae;have hf:=rf kn
 conv at hf=>rhs;reduce
 rw[←aC] at hf;rw[←ai] at hf;rw[←ae] at hf;by_cases h1:ns≤10
 ·have k1:¬(10 :Int)<(ns:Int):=by omega
  by_cases h2:(els fi).length≤10
  ·have k2:¬(10 :Int)<((els fi).length:Int):=by omega
   by_cases h3:(els ss).length≤64
   ·have k3:¬(64 :Int)<((els ss).length:Int):=by omega
    by_cases h4:(els a).length≤10
    ·have k4:¬(10 :Int)<((els a).length:Int):=by omega
     rcases key h3 with⟨e,hx,g2,hq⟩ |⟨e,hx,g4,hq⟩
     ·rw[jA] at hq;rcases vD h2 with⟨e',dB,-,jX⟩ |⟨e',dB,Jy,jX⟩
      ·rw[jA] at jX;refine⟨true,aG (aa:=[_,_]) hf rfl rfl rfl ?_,iff_of_true rfl ⟨h1,h2,h3,h4,hq,jX⟩⟩;clear hf ae ai aC;simp at hx dB;simp[o1,o3,o4,eJ,aR,dg,bE,k1,k2,k3,k4,g2,hx,dB]
      ·rw[jA] at jX;refine⟨false,aG (aa:=[_,_]) hf rfl rfl rfl ?_,iff_of_false (by simp) fun h=>jX h.2.2.2.2.2⟩;clear hf ae ai aC;simp at hx dB;simp[o1,o3,o4,eJ,aR,dg,bE,k1,k2,k3,k4,g2,hx,dB,Jy]
     ·rw[jA] at hq;refine⟨false,aG (aa:=[_,_]) hf rfl rfl rfl ?_,iff_of_false (by simp) fun h=>hq h.2.2.2.2.1⟩;clear hf ae ai aC;simp at hx;simp[o1,o3,o4,eJ,aR,dg,bE,k1,k2,k3,k4,g4,hx]
    ·have k4:(10 :Int)<((els a).length:Int):=by omega
     refine⟨false,aG (aa:=[_,_]) hf rfl rfl rfl ?_,iff_of_false (by simp) fun h=>h4 h.2.2.2.1⟩;clear hf ae ai aC;simp[o1,o3,o4,eJ,aR,dg,bE,k1,k2,k3,k4]
   ·have k3:(64 :Int)<((els ss).length:Int):=by omega
    refine⟨false,aG (aa:=[_,_]) hf rfl rfl rfl ?_,iff_of_false (by simp) fun h=>h3 h.2.2.1⟩;clear hf ae ai aC;simp[o1,o3,o4,eJ,dg,bE,k1,k2,k3]
  ·have k2:(10 :Int)<((els fi).length:Int):=by omega
   refine⟨false,aG (aa:=[_,_]) hf rfl rfl rfl ?_,iff_of_false (by simp) fun h=>h2 h.2.1⟩;clear hf ae ai aC;simp[o1,o3,o4,dg,bE,k1,k2]
 ·have k1:(10 :Int)<(ns:Int):=by omega
  refine⟨false,aG (aa:=[_,_]) hf rfl rfl rfl ?_,iff_of_false (by simp) fun h=>h1 h.1⟩;clear hf ae ai aC;simp[o1,o3,o4,bE,k1]
end Go.Proofs.YtgplgbonlnodeaaGreatDoor
namespace Go.Proofs.YtgplgbonlnodeaaGreatDoor
open Go.Vs
set_option maxRecDepth 100000
set_option maxHeartbeats 4000000
attribute [local irreducible] oT oR oS eW
structure Mo where
 a:Sl Int
 st:Int
 ss:Sl (Sl Rl)
 lp:Int
abbrev Mo.p(m:Mo):PD:=.agg [af m.a,.int .i64 m.st,bK m.ss,.int .i64 m.lp]
def tU(sp:Sp)(m:Mo):Prop:=WL (els sp.so).length (els sp.fi) (els m.a) (els m.ss)
def qz(sp:Sp)(m:Mo):Prop:=Fw (els sp.so).length (els sp.fi) m.a m.st (els m.ss) m.lp
theorem WM(sp:Sp)(m:Mo):∃r:Bool,(∀H,av (call pg) 12 [.p (.agg [jg sp.so,bZ sp.fi,jh sp.pr,ji sp.fa]),.p (.agg [af m.a,.int .i64 m.st,bK m.ss,.int .i64 m.lp])] H=some (.val (.p (.bool r)),H))∧(r=true↔tU sp m):=
 aju (gT _) (by simp) (by simp) (by simp)
theorem tU.tu{sp:Sp}{m:Mo}(h:tU sp m):∀x∈els m.ss,∀r∈els x,(els r.tu).length<1000000000:=fun x hx r hr=>by
 have:=(h.2.2.2.2.1 x hx).2 r hr;omega
theorem WN{sp:Sp}{m:Mo}(h:tU sp m):∃r:Bool,(∀H,av (call pg) 26 [.p (.agg [jg sp.so,bZ sp.fi,jh sp.pr,ji sp.fa]),.p (.agg [af m.a,.int .i64 m.st,bK m.ss,.int .i64 m.lp])] H=some (.val (.p (.bool r)),H))∧(r=true↔qz sp m):=by
 obtain⟨h1,h2,h3,h4,h5,h6⟩:=h;exact ajf (gT _) (by simp) (by simp) (by simp) (by omega) (by omega) (by omega) (by omega) (fun x hx r hr=>by have:=(h5 x hx).2 r hr;omega) fun f hf=>by have:=h6 f hf;omega
theorem qz.row{sp:Sp}{m:Mo}{bs:Sl Bn}{a:Sl Int}{st:Int}(h:qz sp m)(ok:iF sp a st bs):∀x∈els m.ss,qd (els m.a) (els sp.fi) (els m.ss) x:=
 ((Cv ok.mC.fd).1 h).2.2.2.2
theorem qz.srt{sp:Sp}{m:Mo}{bs:Sl Bn}{a:Sl Int}{st:Int}(h:qz sp m)(ok:iF sp a st bs):∀x∈els m.ss,∀r∈els x,dw (els r.tu):=fun x hx r hr=>by
 obtain⟨h1,h2⟩:=h.row ok x hx;obtain⟨i,hi,rfl⟩:=p6 hr;have hf:i<(els sp.fi).length:=by omega
 exact xq (h2 i hf _ _ (aA hf) (aA hi)).2.1
theorem iF.at{sp:Sp}{bs:Sl Bn}{a:Sl Int}{st:Int}(ok:iF sp a st bs):∀b∈els bs,∃so:List Int,Cs (els a).sum.toNat (els a) so b:=fun b hb=>by
 obtain⟨i,hi,rfl⟩:=p6 hb;have hf:i<(els sp.fi).length:=by have:=ok.len;omega
 exact⟨_,ok.bn i hi _ _ (aA hi) (aA hf)⟩
theorem WO{sp:Sp}{m:Mo}{bs:Sl Bn}{a:Sl Int}{st:Int}(h:qz sp m)(hs:tU sp m)(ok:iF sp a st bs):Wr (els bs) (els m.ss) where
 Oy b hb:=by have:=(ok.tu b hb).1;omega
 Oz b hb:=by have:=(ok.tu b hb).2;omega
 sup b hb:=by obtain⟨_,_,_,_,h4,_⟩:=ok.at b hb;exact xq h4
 sR b hb:=by obtain⟨_,_,_,h3,_⟩:=ok.at b hb;exact xq h3
 rl:=hs.tu
 sr:=h.srt ok
def zW(bs:Sl Bn)(m:Mo):Prop:=∀x∈els m.ss,xp (els bs) x
theorem WQ{sp:Sp}{m:Mo}{bs:Sl Bn}{a:Sl Int}{st:Int}(h:qz sp m)(hs:tU sp m)(ok:iF sp a st bs):
    ∃r:Bool,(∀H,av (call pg) 27 [.p (bG bs),.p (.agg [af m.a,.int .i64 m.st,bK m.ss,.int .i64 m.lp])] H=some (.val (.p (.bool r)),H))∧(r=true↔zW bs m):=
 ai3 bs m.a m.ss m.st m.lp (by have:=ok.len;have:=ok.mC.nf;omega) (by have:=hs.2.2.1;omega) (WO h hs ok)
theorem ajw{sp:Sp}{m:Mo}{bs:Sl Bn}{a:Sl Int}{st:Int}(h:qz sp m)(hs:tU sp m)(ok:iF sp a st bs)(hi:zW bs m):
    (∃r:Bool,(∀H,av (call pg) 65 [.p (af m.a),.p (af a)] H=some (.val (.p (.bool r)),H))∧(r=true↔els m.a=els a))∧
    (∀H,av (call pg) 66 [.p (.agg [jg sp.so,bZ sp.fi,jh sp.pr,ji sp.fa]),.p (.agg [af m.a,.int .i64 m.st,bK m.ss,.int .i64 m.lp])] H=some (.val (.p (.bool true)),H))∧
    (∀H,av (call pg) 67 [.p (bG bs),.p (.agg [af m.a,.int .i64 m.st,bK m.ss,.int .i64 m.lp])] H=some (.val (.p (.bool true)),H)):=by
 have lN:=hs;obtain⟨h1,h2,h3,h4,h5,h6⟩:=hs;have hb:=ok.len;have BB:=ok.mC.nf;refine⟨NT m.a a (by omega),?_,?_⟩
 ·obtain⟨r,c,d⟩:=WH (so:=jg sp.so) (f3:=jh sp.pr) (f4:=ji sp.fa) (fi:=sp.fi) (a:=m.a) (ss:=m.ss) (st:=m.st) (lp:=m.lp) (gT _) (by simp) (by simp) (by simp) (by omega) (by omega) (by omega) (by omega) lN.tu ok.mC.fd;have:=d.2 h;subst this;exact c
 ·obtain⟨r,c,d⟩:=WK bs m.a m.ss m.st m.lp (by omega) (by omega) (fun b hb=>by have:=ok.tu b hb;omega) lN.tu;have:=d.2 hi;subst this;exact c
theorem WR{sp:Sp}{m:Mo}{bs:Sl Bn}{a:Sl Int}{st:Int}(h:qz sp m)(hs:tU sp m)(ok:iF sp a st bs)(hi:zW bs m)(cC:m.st=st)(ha:els m.a=els a):
    ∀H,av (call pg) 18 [.p (.agg [jg sp.so,bZ sp.fi,jh sp.pr,ji sp.fa]),.p (.agg [af a,.int .i64 st]),.p (bG bs),.p (.agg [af m.a,.int .i64 m.st,bK m.ss,.int .i64 m.lp])] H=
     some (.val (.bA [.p (dy (pS (fL (els sp.fi) (els bs) st m.lp (els m.ss)))),.p (.bool true)]),H):=by
 obtain⟨⟨r,c1,d1⟩,c2,c3⟩:=ajw h hs ok hi;have:=d1.2 ha;subst this;obtain⟨g1,g2,g3,g4,g5⟩:=(Cv ok.mC.fd).1 h;have hb:=ok.len;have BB:=ok.mC.nf;have m9:=WO h hs ok;subst cC;exact ajk (by simp) (by simp) (by simp) ⟨g1.2.2.1,g1.2.2.2.1⟩ hb (by omega) (fun b hb=>by have:=ok.tu b hb;omega) m9.sR hs.tu m9.sr (fun x hx=>(g5 x hx).1) g2 ⟨g3,g4⟩ c1 c2 c3
end Go.Proofs.YtgplgbonlnodeaaGreatDoor
namespace Go.Proofs.YtgplgbonlnodeaaGreatDoor
open Go.Vs
open Go.ChangeShapes Go.WideShapes Go.RowKit
theorem WS{α:Type}{f:α→PD}{R:α→Prop}:∀{es:List PD},(∀x∈es,∃a,x=f a∧R a)→∃l:List α,es=l.map f∧∀a∈l,R a
 |[],_=>⟨[],rfl,by simp⟩
 |x::es,h=>by
  obtain⟨a,rfl,ha⟩:=h x (by simp);obtain⟨l,rfl,hl⟩:=WS (es:=es) fun y hy=>h y (by simp[hy]);exact⟨a::l,rfl,fun b hb=>by
   rcases cN.1 hb with rfl |hb
   ·exact ha
   ·exact hl b hb⟩
theorem WT{t e sz:Nat}{α:Type}{f:α→PD}{R:α→Prop}{xs:List PD}(ht:Tryz.prog.underlying t=some (.slice e))(hc:Tryz.prog.cellsOf e=sz)(lJ:1≤Tryz.prog.bytesOf e)(h:dV Tryz.prog t xs)
    (he:∀es x,xs=[.slice sz es]→x∈es→dV Tryz.prog e x.cells→x=nR Tryz.prog e x.cells→∃a,x=f a∧R a):∃o:Sl α,xs=[fD sz (o.map f)]∧(els o).length<4611686018427387904∧(∀a∈els o,R a)∧o≠.cV:=by
 subst hc;rcases aec ht h with rfl |rfl |⟨es,aq,hl,rfl,h1,h2⟩
 ·exact⟨.nil,rfl,by simp[els],by simp[els],by simp⟩
 ·exact⟨.of [],rfl,by simp[els],by simp[els],by simp⟩
 ·obtain⟨l,rfl,hR⟩:=WS fun x hx=>he es x rfl hx (h1 x hx) (h2 x hx);refine⟨.of l,?_,?_,hR,by simp⟩
  ·cases l with
   |nil=>exact absurd rfl aq
   |cons z zs=>rfl
  ·rw[cx] at hl;have h3:=Nat.mul_le_mul_left l.length lJ;have h4:reachBytes=140737488351232:=rfl;simp only[els];omega
theorem tV{t e sz:Nat}{α:Type}{f:α→PD}{R:α→Prop}{xs:List PD}(ht:Tryz.prog.underlying t=some (.slice e))(hc:Tryz.prog.cellsOf e=sz)(lJ:1≤Tryz.prog.bytesOf e)(h:dV Tryz.prog t xs)
    (he:∀es x,xs=[.slice sz es]→x∈es→dV Tryz.prog e x.cells→x=nR Tryz.prog e x.cells→∃a,x=f a∧R a):∃o:Sl α,xs=[fD sz (o.map f)]∧(els o).length<4611686018427387904∧∀a∈els o,R a:=by
 obtain⟨o,h1,h2,h3,_⟩:=WT ht hc lJ h he;exact⟨o,h1,h2,h3⟩
theorem JD{xs:List PD}(h:dV Tryz.prog 28 xs):∃o:Sl Int,xs=[af o]∧(els o).length<4611686018427387904∧o≠.cV:=by
 obtain⟨o,e,hl,_,hn⟩:=WT (f:=PD.int .i64) (R:=fun _=>True) Tryz.underlying28 (by kernel_rfl) (of_decide_eq_true (by kernel_rfl)) h fun es x dC hx h1 h2=>by
  obtain⟨n,e1,_⟩:=vh Tryz.underlying3 h1;rw[e1,MW (fun fs e=>by rw[Tryz.underlying3] at e;cases e)] at h2;exact⟨n,h2,trivial⟩
 exact⟨o,e,hl,hn⟩
theorem OJ{xs:List PD}(h:dV Tryz.prog 85 xs):∃r:Rl,xs=[.int .i64 r.ar,af r.tu]∧r.tu≠.cV:=by
 obtain⟨parts,rfl,hl,hf⟩:=rq Tryz.underlying85 h
 match parts,hl with
 |[a,b],_=>
  obtain⟨n,rfl,_⟩:=vh Tryz.underlying3 (hf 0 _ a rfl rfl);obtain⟨o,rfl,_,hn⟩:=JD (hf 1 _ b rfl rfl);exact⟨⟨n,o⟩,rfl,hn⟩
theorem ajx{xs:List PD}(h:dV Tryz.prog 31 xs):∃bs:Sl Bn,xs=[bG bs]∧(els bs).length<4611686018427387904∧∀b∈els bs,b.lo.tu≠.cV:=by
 obtain⟨o,e,h1,h2⟩:=tV (f:=Bn.p) (R:=fun b=>b.lo.tu≠.cV) Tryz.underlying31 (by kernel_rfl) (of_decide_eq_true (by kernel_rfl)) h fun es x dC hx h1 h2=>by
  rw[wN Tryz.underlying98] at h2;obtain⟨parts,e,hl,hf⟩:=rq Tryz.underlying98 h1
  match parts,hl with
  |[a,b],_=>
   obtain⟨r,rfl,hn⟩:=OJ (hf 0 _ a rfl rfl);obtain⟨q,rfl,_⟩:=OJ (hf 1 _ b rfl rfl);rw[e] at h2;exact⟨⟨r,q⟩,h2,hn⟩
 exact⟨o,e,h1,h2⟩
theorem ajy{xs:List PD}(h:dV Tryz.prog 78 xs):∃o:Sl Rl,xs=[iN o]:=by
 obtain⟨o,e,_,_⟩:=tV (f:=Rl.p) (R:=fun _=>True) Tryz.underlying78 (by kernel_rfl) (of_decide_eq_true (by kernel_rfl)) h fun es x dC hx h1 h2=>by
  rw[wN Tryz.underlying85] at h2;obtain⟨r,e,_⟩:=OJ h1;rw[e] at h2;exact⟨r,h2,trivial⟩
 exact⟨o,e⟩
theorem ajz{xs:List PD}(h:dV Tryz.prog 35 xs):∃o:Sl (Sl Rl),xs=[bK o]:=by
 obtain⟨o,e,_,_⟩:=tV (f:=iN) (R:=fun _=>True) Tryz.underlying35 (by kernel_rfl) (of_decide_eq_true (by kernel_rfl)) h fun es x dC hx h1 h2=>by
  obtain⟨r,e⟩:=ajy h1;rw[e,MW (fun fs e=>by rw[Tryz.underlying78] at e;cases e)] at h2;exact⟨r,h2,trivial⟩
 exact⟨o,e⟩
theorem ajA{xs:List PD}(h:dV Tryz.prog 37 xs):∃m:Mo,xs=[af m.a,.int .i64 m.st,bK m.ss,.int .i64 m.lp]∧m.a≠.cV:=by
 obtain⟨parts,rfl,hl,hf⟩:=rq Tryz.underlying37 h
 match parts,hl with
 |[a,b,c],_=>
  obtain⟨ajB,rfl,kI,WU⟩:=rq Tryz.underlying30 (hf 0 _ a rfl rfl);obtain⟨ss,rfl⟩:=ajz (hf 1 _ b rfl rfl);obtain⟨lp,rfl,_⟩:=vh Tryz.underlying3 (hf 2 _ c rfl rfl)
  match ajB,kI with
  |[d,e],_=>
   obtain⟨at',rfl,_,hn⟩:=JD (WU 0 _ d rfl rfl);obtain⟨st,rfl,_⟩:=vh Tryz.underlying3 (WU 1 _ e rfl rfl);exact⟨⟨at',st,ss,lp⟩,rfl,hn⟩
theorem ajC{xs:List PD}(h:dV Tryz.prog 30 xs):∃(a:Sl Int) (st:Int),xs=[af a,.int .i64 st]∧(els a).length<4611686018427387904∧a≠.cV:=by
 obtain⟨parts,rfl,hl,hf⟩:=rq Tryz.underlying30 h
 match parts,hl with
 |[d,e],_=>
  obtain⟨at',rfl,hl,hn⟩:=JD (hf 0 _ d rfl rfl);obtain⟨st,rfl,_⟩:=vh Tryz.underlying3 (hf 1 _ e rfl rfl);exact⟨at',st,rfl,hl,hn⟩
theorem ajD{xs:List PD}(h:dV Tryz.prog 38 xs):∃o:Sl Bool,xs=[dy o]:=by
 obtain⟨o,e,_,_⟩:=tV (f:=PD.bool) (R:=fun _=>True) Tryz.underlying38 (by kernel_rfl) (of_decide_eq_true (by kernel_rfl)) h fun es x dC hx h1 h2=>by
  obtain⟨n,e1⟩:=M0 Tryz.underlying4 h1;rw[e1,MW (fun fs e=>by rw[Tryz.underlying4] at e;cases e)] at h2;exact⟨n,h2,trivial⟩
 exact⟨o,e⟩
theorem ajE(o:Sl Nd):∃c ks,o=xe c ks:=by
 match o with
 | .nil=>exact⟨0,[],rfl⟩
 | .cV=>exact⟨1,[],rfl⟩
 | .of []=>exact⟨2,[],rfl⟩
 | .of (x::l)=>exact⟨2,x::l,rfl⟩
theorem ajF:∀(n:Nat) (xs:List PD),SizeOf.sizeOf xs≤n→dV Tryz.prog 66 xs→∃a:Nd,xs=a.cl∧mq a:=by
 intro n
 induction n with
 |zero=>intro xs h;cases xs<;>simp at h
 |succ n ih=>
  intro xs hs h;obtain⟨parts,rfl,hl,hf⟩:=rq Tryz.underlying66 h
  match parts,hl with
  |[a,b,c,d,e],_=>
   obtain⟨op,rfl,_⟩:=vh Tryz.underlying3 (hf 0 _ a rfl rfl);obtain⟨nm,rfl,_⟩:=Bc Tryz.underlying9 (hf 1 _ b rfl rfl);obtain⟨k,rfl,_⟩:=vh Tryz.underlying3 (hf 2 _ c rfl rfl);obtain⟨pos,rfl,_⟩:=vh Tryz.underlying3 (hf 4 _ e rfl rfl);have hd:=hf 3 _ d rfl rfl;obtain⟨o,rfl,hlen,bV⟩:=tV (f:=Nd.pd) (R:=mq) (sz:=5) Tryz.underlying64 (by kernel_rfl) (of_decide_eq_true (by kernel_rfl)) hd fun es x dC hx h1 h2=>by
    rw[wN Tryz.underlying66] at h2;have ah:SizeOf.sizeOf x<SizeOf.sizeOf es:=List.sizeOf_lt_of_mem hx;have qY:SizeOf.sizeOf x=1+SizeOf.sizeOf x.cells:=by
     have :SizeOf.sizeOf (PD.agg x.cells)=1+SizeOf.sizeOf x.cells:=by simp
     rw[←h2] at this;exact this
    subst dC;simp at hs;obtain⟨y,hy,hyo⟩:=ih x.cells (by omega) h1;exact⟨y,by rw[h2,hy,Vv],hyo⟩
   obtain⟨c,ks,rfl⟩:=ajE o;rw[ET] at hlen bV;exact⟨.mk op nm k c ks pos,rfl,.mk _ hlen bV⟩
theorem WV{xs:List PD}(h:dV Tryz.prog 66 xs):∃a:Nd,xs=a.cl∧mq a:=ajF _ _ (aV _) h
theorem ajH{xs:List PD}(h:dV Tryz.prog 22 xs):∃o:Sl Sr,xs=[jg o]∧(els o).length<4611686018427387904∧∀s∈els o,s.nm.length≤140737488355000:=by
 obtain⟨o,e,hl,h2⟩:=tV (f:=Sr.p) (R:=fun s=>s.nm.length≤140737488355000) Tryz.underlying22 (by kernel_rfl) (of_decide_eq_true (by kernel_rfl)) h fun es x dC hx h1 h2=>by
  rw[wN Tryz.underlying93] at h2;obtain⟨parts,e,hl,hf⟩:=rq Tryz.underlying93 h1
  match parts,hl with
  |[a,b],_=>
   obtain⟨nm,rfl,hn⟩:=Bc Tryz.underlying9 (hf 0 _ a rfl rfl);obtain⟨od,rfl⟩:=M0 Tryz.underlying4 (hf 1 _ b rfl rfl);rw[e] at h2;have h4:reachBytes=140737488351232:=rfl;exact⟨⟨nm,od⟩,h2,by dsimp only;omega⟩
 exact⟨o,e,hl,h2⟩
theorem ajI{xs:List PD}(h:dV Tryz.prog 23 xs):∃o:Sl Fi,xs=[bZ o]:=by
 obtain⟨o,e,_,_⟩:=tV (f:=Fi.p) (R:=fun _=>True) Tryz.underlying23 (by kernel_rfl) (of_decide_eq_true (by kernel_rfl)) h fun es x dC hx h1 h2=>by
  rw[wN Tryz.underlying95] at h2;obtain⟨parts,e,hl,hf⟩:=rq Tryz.underlying95 h1
  match parts,hl with
  |[a,b,c],_=>
   obtain⟨nm,rfl,_⟩:=Bc Tryz.underlying9 (hf 0 _ a rfl rfl);obtain⟨so,rfl,_⟩:=JD (hf 1 _ b rfl rfl);obtain⟨va,rfl⟩:=M0 Tryz.underlying4 (hf 2 _ c rfl rfl);rw[e] at h2;exact⟨⟨nm,so,va⟩,h2,trivial⟩
 exact⟨o,e⟩
theorem ajJ{xs:List PD}(h:dV Tryz.prog 163 xs):∃o:Sl Pm,xs=[im o]:=by
 obtain⟨o,e,_,_⟩:=tV (f:=Pm.p) (R:=fun _=>True) Tryz.underlying163 (by kernel_rfl) (of_decide_eq_true (by kernel_rfl)) h fun es x dC hx h1 h2=>by
  rw[wN Tryz.underlying222] at h2;obtain⟨parts,e,hl,hf⟩:=rq Tryz.underlying222 h1
  match parts,hl with
  |[a,b],_=>
   obtain⟨nm,rfl,_⟩:=Bc Tryz.underlying9 (hf 0 _ a rfl rfl);obtain⟨so,rfl,_⟩:=vh Tryz.underlying3 (hf 1 _ b rfl rfl);rw[e] at h2;exact⟨⟨nm,so⟩,h2,trivial⟩
 exact⟨o,e⟩
theorem ajK{xs:List PD}(h:dV Tryz.prog 24 xs):∃o:Sl Pr,xs=[jh o]∧∀p∈els o,mq p.bo:=by
 obtain⟨o,e,_,h2⟩:=tV (f:=Pr.p) (R:=fun p=>mq p.bo) Tryz.underlying24 (by kernel_rfl) (of_decide_eq_true (by kernel_rfl)) h fun es x dC hx h1 h2=>by
  rw[wN Tryz.underlying165] at h2;obtain⟨parts,e,hl,hf⟩:=rq Tryz.underlying165 h1
  match parts,hl with
  |[a,b,c],_=>
   obtain⟨nm,rfl,_⟩:=Bc Tryz.underlying9 (hf 0 _ a rfl rfl);obtain⟨ps,rfl⟩:=ajJ (hf 1 _ b rfl rfl);obtain⟨bo,rfl,E4⟩:=WV (hf 2 _ c rfl rfl);rw[e] at h2;exact⟨⟨nm,ps,bo⟩,h2,E4⟩
 exact⟨o,e,h2⟩
theorem ajL{xs:List PD}(h:dV Tryz.prog 25 xs):∃o:Sl Fa,xs=[ji o]∧∀p∈els o,mq p.bo:=by
 obtain⟨o,e,_,h2⟩:=tV (f:=Fa.p) (R:=fun p=>mq p.bo) Tryz.underlying25 (by kernel_rfl) (of_decide_eq_true (by kernel_rfl)) h fun es x dC hx h1 h2=>by
  rw[wN Tryz.underlying147] at h2;obtain⟨parts,e,hl,hf⟩:=rq Tryz.underlying147 h1
  match parts,hl with
  |[a,c],_=>
   obtain⟨nm,rfl,_⟩:=Bc Tryz.underlying9 (hf 0 _ a rfl rfl);obtain⟨bo,rfl,E4⟩:=WV (hf 1 _ c rfl rfl);rw[e] at h2;exact⟨⟨nm,bo⟩,h2,E4⟩
 exact⟨o,e,h2⟩
theorem ajM{xs:List PD}(h:dV Tryz.prog 27 xs):∃sp:Sp,xs=sp.cl∧xg sp∧nY sp∧(els sp.so).length<4611686018427387904:=by
 obtain⟨parts,rfl,hl,hf⟩:=rq Tryz.underlying27 h
 match parts,hl with
 |[a,b,c,d],_=>
  obtain⟨so,rfl,pw,h1⟩:=ajH (hf 0 _ a rfl rfl);obtain⟨fi,rfl⟩:=ajI (hf 1 _ b rfl rfl);obtain⟨pr,rfl,h2⟩:=ajK (hf 2 _ c rfl rfl);obtain⟨fa,rfl,h3⟩:=ajL (hf 3 _ d rfl rfl);exact⟨⟨so,fi,pr,fa⟩,rfl,⟨h2,h3⟩,h1,pw⟩
abbrev WW:List TypeId:=[27,31,37,38,22,23,24,25,98,30,35,3,93,95,165,147,85,28,78,9,4,163,66,222,64]
theorem FD:WW.all (Ec Tryz.prog WW)=true:=by kernel_rfl
variable {H : Type} {enc : TypeId × Value → H} {W : World} {r : Reach} {b0 : Nat} {v : Value}
def Rd(enc:TypeId×Value→H)(W:World)(t:TypeId)(v:Value):Prop:=∃d p,DataW.Trod enc Tryz.prog W 0 (fun _=>true) true t v d p∧wO Tryz.prog t d
set_option maxRecDepth 20000 in
theorem WX(hval:Value.okWide Tryz.prog W r b0 27 v)(hd:Rd enc W 27 v):∃sp:Sp,aL (gG W) v (.p (.agg sp.cl))∧xg sp∧nY sp∧(els sp.so).length<4611686018427387904:=by
 obtain⟨d,p,hd,hz⟩:=hd;obtain⟨x,h1,h2,h3,_⟩:=Ed FD (by simp) hval hd hz;obtain⟨sp,e,q⟩:=ajM h2;have hx:=h3 ⟨_,Tryz.underlying27⟩;exact⟨sp,by rw[←e,←hx];exact h1,q⟩
set_option maxRecDepth 20000 in
theorem ajN(hval:Value.okWide Tryz.prog W r b0 37 v)(hd:Rd enc W 37 v):∃m:Mo,aL (gG W) v (.p (.agg [af m.a,.int .i64 m.st,bK m.ss,.int .i64 m.lp]))∧m.a≠.cV:=by
 obtain⟨d,p,hd,hz⟩:=hd;obtain⟨x,h1,h2,h3,_⟩:=Ed FD (by simp) hval hd hz;obtain⟨m,e,hn⟩:=ajA h2;have hx:=h3 ⟨_,Tryz.underlying37⟩;exact⟨m,by rw[←e,←hx];exact h1,hn⟩
set_option maxRecDepth 20000 in
theorem WY(hval:Value.okWide Tryz.prog W r b0 31 v)(hd:Rd enc W 31 v):∃bs:Sl Bn,aL (gG W) v (.p (bG bs))∧(els bs).length<4611686018427387904∧∀b∈els bs,b.lo.tu≠.cV:=by
 obtain⟨d,p,hd,hz⟩:=hd;obtain⟨x,h1,h2,_,h4⟩:=Ed FD (by simp) hval hd hz;obtain⟨bs,e,q⟩:=ajx h2;have h4:=h4 fun fs e=>by rw[Tryz.underlying31] at e;cases e
 have hx:x=bG bs:=by
  cases x<;>first |(simp only[PD.cells,FV,and_true] at e;exact e) |(cases h4)
 exact⟨bs,hx▸h1,q⟩
set_option maxRecDepth 20000 in
theorem ajO(hval:Value.okWide Tryz.prog W r b0 30 v)(hd:Rd enc W 30 v):∃(a:Sl Int) (st:Int),aL (gG W) v (.p (.agg [af a,.int .i64 st]))∧(els a).length<4611686018427387904∧a≠.cV:=by
 obtain⟨d,p,hd,hz⟩:=hd;obtain⟨x,h1,h2,h3,_⟩:=Ed FD (by simp) hval hd hz;obtain⟨a,st,e,q⟩:=ajC h2;have hx:=h3 ⟨_,Tryz.underlying30⟩;exact⟨a,st,by rw[←e,←hx];exact h1,q⟩
set_option maxRecDepth 20000 in
theorem ajP(hval:Value.okWide Tryz.prog W r b0 38 v)(hd:Rd enc W 38 v):∃bs:Sl Bool,aL (gG W) v (.p (dy bs)):=by
 obtain⟨d,p,hd,hz⟩:=hd;obtain⟨x,h1,h2,_,h4⟩:=Ed FD (by simp) hval hd hz;obtain⟨bs,e⟩:=ajD h2;have h4:=h4 fun fs e=>by rw[Tryz.underlying38] at e;cases e
 have hx:x=dy bs:=by
  cases x<;>first |(simp only[PD.cells,FV,and_true] at e;exact e) |(cases h4)
 exact⟨bs,hx▸h1⟩
theorem ajQ{bi ti:Nat→Option Nat}{d:D}{b:Bool}(h:d.ren bi ti=some (.p (.bool b))):d= .p (.bool b):=by
 cases d with
 |p x=>simpa[D.ren] using h
 |bk t e sz es=>simp only[D.ren] at h;split at h<;>simp at h
 |fn f a c=>simp only[D.ren] at h;split at h<;>simp at h
 |_=>simp[D.ren] at h
theorem WZ{c:bC}{f:Nat}{aa:List PD}{b:Bool}{H':Hp}(h:av c f (aa.map .p) ⟨[],[]⟩=some (.val (.p (.bool b)),H')):∃Hx,c f (aa.map .p) ⟨[],[]⟩=some (.val (.p (.bool b)),Hx):=by
 unfold av at h;simp only[oO,sC,ins,qX,fX,lA,Vs.nodupB,Kh,if_true,aP,iM] at h;cases hc:c f (aa.map .p) ⟨[],[]⟩ with
 |none=>rw[hc] at h;cases h
 |some y=>
  obtain⟨r,Hx⟩:=y;rw[hc] at h;dsimp only at h;refine⟨Hx,?_⟩;have key:∀bi ti,r.ren bi ti=some (.val (.p (.bool b)))→r= .val (.p (.bool b)):=by
   intro bi ti hr;cases r with
   |val d=>
    simp only[bt.ren,au] at hr;obtain⟨d',h1,h2⟩:=hr;cases h2;rw[ajQ h1]
   |bR d=>
    simp only[bt.ren,au] at hr;obtain⟨d',_,h2⟩:=hr;cases h2
  unfold back at h;split at h
  ·dsimp only at h;split at h
   ·rename_i hr _;cases h;rw[key _ _ hr]
   ·split at h
    ·rename_i hr _ _;cases h;rw[key _ _ hr]
    ·cases h
  ·cases h
end Go.Proofs.YtgplgbonlnodeaaGreatDoor
namespace Go.Proofs.YtgplgbonlnodeaaGreatDoor
open Go.Vs
set_option maxRecDepth 100000
def cS(l:List Int):List D:=(l.map fun x=>PD.int .i64 x).map .p
theorem OK(i e n sz:Nat):fg 1 (.aB i e n sz)=some n:=by simp[fg]
theorem Cx(l:List Int):aU (cS l)=false:=yP (l.map fun x=>PD.int .i64 x)
theorem FE(f g:Nat→Option Nat)(l:List Int):D.ba f g (cS l)=some (cS l):=iM _ _ (l.map fun x=>PD.int .i64 x)
theorem W0{l:List Int}{k:Nat}(h:k<l.length):(cS l)[k]? =some (.p (.int .i64 (l[k]))):=by simp[cS,h]
theorem W2{l:List Int}{k:Nat}(h:k<l.length):eN none 1 (.aB 0 3 l.length 1) (k:Int)=some (.box 0 k):=by
 simp[eN,h]
theorem OL{f:Nat}{fc:FC}{aa:List D}{cs:List D}{ps:List PD}{y z:PD}(ak:cs=ps.map .p)(hF:pg.F f=some fc)(kP:pg.lib f aa ⟨[cs],[]⟩=none)(hn:aa.length=fc.np)(hd:fc.iu=none)
    (h:post (fun o e H=>(o= .ret∨o= .norm)∧lX pg.G e H fc.res=some (.bA [.p y,.p z])∧H=⟨[cs],[]⟩) (ay (call pg) pg.G bf fc.body ⟨entry 0 aa,⟨[cs],[]⟩⟩)):
    call pg f aa ⟨[cs],[]⟩=some (.val (.bA [.p y,.p z]),⟨[cs],[]⟩):=by
 obtain⟨o,e,H1,hx,ho,hr,rfl⟩:=bJ h;have dY:finish pg.G fc.res (some (o,⟨e,⟨[cs],[]⟩⟩))=some (.val (.bA [.p y,.p z]),⟨[cs],[]⟩):=by
  rcases ho with rfl |rfl
  ·simp only[finish,hr]
  ·simp only[finish,hr]
 cases hz:fc.aH with
 |false=>exact tF kP hF hn (by simp only[hz,mO,iT,hd,hx,dY];rfl)
 |true=>
  have h1:∀H,pk 1 H cs=cs:=fun H=>by rw[ak];simp[pk,oO]
  have h2:∀f g,D.ba f g cs=some cs:=fun f g=>by rw[ak];exact iM _ _ _
  exact tF kP hF hn (by
   simp only[hz,mO,iT,hd,hx,dY,if_true,eA];simp[rM,aP,bt.aH,bt.ren,h1,h2,D.ren,D.aH,D.ba])
theorem ajR(l:List Int)(x:Int)(hl:l.length<4611686018427387904)(hs:dw l):
    ∃k:Nat,At l x k∧call pg 69 [.aB 0 3 l.length 1,.p (.int .i64 x)] ⟨[cS l],[]⟩=some (.val (.bA [.p (.int .i64 ((k:Nat):Int)),.p (.bool (decide (x∈l)))]),⟨[cS l],[]⟩):=by
 have l8:=F0.1 hs;have key:=eY (c:=call pg) (G:=pg.G) (keep:=[0,1,6,7,8]) (b:=bd ng 0) (σ:=Nat×Nat) (fun s=>[(0,.aB 0 3 l.length 1),(1,.p (.int .i64 x)),(6,.p (.int .i64 ((l.length:Nat):Int))),(7,.p (.int .i64 ((s.1:Nat):Int))),(8,.p (.int .i64 ((s.2:Nat):Int)))]) (fun _=>⟨[cS l],[]⟩) (fun s=>s.2-s.1)
  (fun s=>s.1≤s.2∧s.2≤l.length∧(∀i (h:i<l.length),i<s.1→l[i]<x)∧∀i (h:i<l.length),s.2≤i→x≤l[i])
  (fun o e H=>H=⟨[cS l],[]⟩∧o= .exit 0∧e.get 0= .aB 0 3 l.length 1∧e.get 1= .p (.int .i64 x)∧e.get 6= .p (.int .i64 ((l.length:Nat):Int))∧∃k:Nat,e.get 7= .p (.int .i64 ((k:Nat):Int))∧At l x k)
  ?_ (0,l.length) ⟨b9 _,aV _,fun i _ h=>absurd h (Ai _),fun i h h'=>absurd h (Nat.not_lt.2 h')⟩
 ·obtain⟨o,e,H,hx,rfl,rfl,g0,g1,g6,k,g7,hk⟩:=bJ key;refine⟨k,hk,?_⟩;obtain⟨jG,p1,p2⟩:=hk;simp at hx;have ae:=rf (bd ng 0)
  conv at ae=>rhs;reduce
  have hf:=rf ng
  conv at hf=>rhs;reduce
  rw[←ae] at hf;by_cases ah:k<l.length
  ·have hc:=W0 ah;have aM:=W2 ah;by_cases hq:l[k]=x
   ·have hm:x∈l:=hq▸bO ah;rw[hq] at hc;refine OL (ps:=l.map fun x=>PD.int .i64 x) rfl hf rfl rfl rfl ?_;clear hf ae;simp[-aU,Cx,OK,hx,g0,g1,g6,g7,ah,aM,hc,hm]
   ·have hm:¬x∈l:=fun hm=>by
     obtain⟨i,hi,rfl⟩:=p6 hm;rcases FZ i k with h |h |h
     ·have:=p1 i hi h;omega
     ·subst h;exact hq rfl
     ·have:=p2 k ah (aV _);have:=l8 k i ah hi h;omega
    refine OL (ps:=l.map fun x=>PD.int .i64 x) rfl hf rfl rfl rfl ?_;clear hf ae;simp[-aU,Cx,OK,hx,g0,g1,g6,g7,ah,aM,hc,hq,hm,Wl]
  ·have hm:¬x∈l:=fun hm=>by
    obtain⟨i,hi,rfl⟩:=p6 hm;have:=p1 i hi (by omega);omega
   refine OL (ps:=l.map fun x=>PD.int .i64 x) rfl hf rfl rfl rfl ?_;clear hf ae;simp[-aU,OK,hx,g6,g7,ah,hm]
 ·rintro⟨lo,hi⟩ ⟨h1,h2,h3,h4⟩;dsimp only at h1 h2 h3 h4⊢;by_cases ah:lo<hi
  ·have hm:(lo+hi)/2<l.length:=by omega
   have c1:IntKind.i64.wrap ((lo:Int)+(hi:Int))=((lo+hi:Nat):Int):=by rw[wrap64 (by omega) (by omega)];simp
   have c0:IntKind.u64.wrap ((lo+hi:Nat):Int)=((lo+hi:Nat):Int):=by
    simp[IntKind.wrap,IntKind.bits,IntKind.signed];omega
   have c2:lW .shr .u64 ((lo+hi:Nat):Int) 1=some (.int .u64 (((lo+hi)/2 :Nat):Int)):=by
    have :(((lo+hi:Nat):Int)).fdiv 2=(((lo+hi)/2 :Nat):Int):=by
     rw[amO _ (by omega)];omega
    simp only[lW,IntKind.bits];rw[if_neg (by omega)];exact congrArg (fun z=>some (PD.int .u64 z)) this
   have c4:IntKind.i64.wrap (((lo+hi)/2 :Nat):Int)=(((lo+hi)/2 :Nat):Int):=wrap64 (by omega) (by omega);have c3:=bw (k:=(lo+hi)/2) (by omega);have aM:=W2 hm;have eh:=W0 hm;by_cases hc:l[(lo+hi)/2]<x
   ·refine aX (Q:=fun o e H=>nx [0,1,6,7,8] [(0,.aB 0 3 l.length 1),(1,.p (.int .i64 x)),(6,.p (.int .i64 ((l.length:Nat):Int))),(7,.p (.int .i64 (((lo+hi)/2+1 :Nat):Int))),(8,.p (.int .i64 ((hi:Nat):Int)))] ⟨[cS l],[]⟩ o e H) ?_ fun o e H hh=>.inl ⟨((lo+hi)/2+1,hi),⟨by dsimp only;omega,h2,fun i h h'=>?_,h4⟩,by dsimp only;omega,hh⟩
    ·have hd:decide (l[(lo+hi)/2]<x)=true:=decide_eq_true hc;have c5:=Jz l[(lo+hi)/2] x;rw[hd] at c5
     conv in bd ng 0=>reduce
     generalize l[(lo+hi)/2]=y at *;generalize (((lo+hi)/2+1 :Nat):Int)=m1 at *;generalize I4:(lo+hi)/2=m3 at *;generalize ((lo+hi:Nat):Int)=m2 at *;simp[-aU,Cx,FE,ah,c0,c1,c2,c3,c4,c5,aM,eh]
    ·dsimp only at h';rcases iP i ((lo+hi)/2) with nk |nk
     ·have:=l8 i _ h hm nk;omega
     ·have :i=(lo+hi)/2:=by omega
      subst this;exact hc
   ·refine aX (Q:=fun o e H=>nx [0,1,6,7,8] [(0,.aB 0 3 l.length 1),(1,.p (.int .i64 x)),(6,.p (.int .i64 ((l.length:Nat):Int))),(7,.p (.int .i64 ((lo:Nat):Int))),(8,.p (.int .i64 (((lo+hi)/2 :Nat):Int)))] ⟨[cS l],[]⟩ o e H) ?_ fun o e H hh=>.inl ⟨(lo,(lo+hi)/2),⟨by dsimp only;omega,by dsimp only;omega,h3,fun i h h'=>?_⟩,by dsimp only;omega,hh⟩
    ·have hd:decide (l[(lo+hi)/2]<x)=false:=decide_eq_false hc;have c5:=Jz l[(lo+hi)/2] x;rw[hd] at c5
     conv in bd ng 0=>reduce
     generalize l[(lo+hi)/2]=y at *;generalize (((lo+hi)/2+1 :Nat):Int)=m1 at *;generalize I4:(lo+hi)/2=m3 at *;generalize ((lo+hi:Nat):Int)=m2 at *;simp[-aU,Cx,FE,ah,c0,c1,c2,c4,c5,aM,eh]
    ·dsimp only at h';rcases iP ((lo+hi)/2) i with nk |nk
     ·have:=l8 _ i hm h nk;omega
     ·have :i=(lo+hi)/2:=by omega
      subst this;omega
  ·have :lo=hi:=by omega
   subst this;refine aX (Q:=fun o e H=>o= .exit 0∧H=⟨[cS l],[]⟩∧e.get 0= .aB 0 3 l.length 1∧e.get 1= .p (.int .i64 x)∧e.get 6= .p (.int .i64 ((l.length:Nat):Int))∧e.get 7= .p (.int .i64 ((lo:Nat):Int))) ?_ fun o e H hh=>.inr ?_
   ·skip
    conv in bd ng 0=>reduce
    simp[-aU,FE]
   ·obtain⟨rfl,rfl,q1,q2,q3,q4⟩:=hh;exact⟨by simp,rfl,rfl,q1,q2,q3,lo,q4,h2,h3,h4⟩
theorem ajS(l:List Int)(x:Int)(hl:l.length<4611686018427387904)(hs:dw l):
    ∃k:Nat,At l x k∧∀(H:Hp) (i:Nat),H.bx[i]? =some (cS l)→av (call pg) 69 [.aB i 3 l.length 1,.p (.int .i64 x)] H=some (.val (.bA [.p (.int .i64 ((k:Nat):Int)),.p (.bool (decide (x∈l)))]),H):=by
 obtain⟨k,h1,hc⟩:=ajR l x hl hs;refine⟨k,h1,fun H i hi=>?_⟩;have hr:D.aD (cS l)=[]:=oO (l.map fun x=>PD.int .i64 x);have ht:D.bz (cS l)=[]:=sC (l.map fun x=>PD.int .i64 x);have hrc:∀n,reach H n [i]=[i]
  | 0=>rfl
  |n+1=>by simp[reach,ef,hi,hr]
 have hC:H.bx.set i (cS l)=H.bx:=by
  apply oh;intro j;rw[vX];split
  ·rename_i e;subst e;obtain⟨a,b⟩:=az.1 hi;rw[if_pos a,hi]
  ·rfl
 have hrn:∀f g,D.ba f g (cS l)=some (cS l):=fun f g=>iM _ _ (l.map fun x=>PD.int .i64 x);simp only[av,D.aD,D.refs,lA,ins,List.contains_nil,ob,if_false,jm,hrc,D.bz,D.cJ,fX,hi,ht,Vs.nodupB,Bool.not_false,Kh,if_true,idx,D.ba,D.ren,eA,aP,hrn,hc,back,gM,dZ,fW,aV,eS,YT,vT,bt.ren,cq,hC]
theorem W4:∀l:List Int,aP Bf (cS l)=some l
 |[]=>rfl
 |x::r=>by
  have:=W4 r;unfold cS at this⊢;rw[dA,dA];simp only[aP,Bf];rw[this];rfl
theorem W8(a:List D)(H:Hp):pg.lib 77 a H=yW a H:=rfl
theorem FG(l:List Int):(cS l).length=l.length:=by simp[cS]
theorem ajV(l:List Int)(k:Nat)(t:Int):((dM l k t).map fun x=>D.p (.int .i64 x))=cS (dM l k t):=by
 unfold cS;rw[uf];rfl
theorem JE(l:List Int):D.aD (cS l)=[]:=oO (l.map fun x=>PD.int .i64 x)
theorem JF(l:List Int):D.bz (cS l)=[]:=sC (l.map fun x=>PD.int .i64 x)
theorem ajW{H:Hp}{i j k:Nat}{l:List Int}{t:Int}(cQ:i≠j)(hi:H.bx[i]? =some (cS l))(hj:H.bx[j]? =some [.p (.int .i64 t)])(aq:l≠[])(hk:k≤l.length)(hn:l.length<1000000):
    av (call pg) 77 [.aB i 3 l.length 1,.p (.int .i64 ((k:Nat):Int)),.aB j 3 1 1] H=some (.val (.aB H.bx.length 3 (l.length+1) 1),⟨H.bx.set i []++[cS (dM l k t)],H.tk⟩):=by
 have ajX:cS l≠[]:=fun h=>aq (by
  have:=FG l;rw[h] at this;exact tY this.symm)
 have hc:call pg 77 [.aB 0 3 l.length 1,.p (.int .i64 ((k:Nat):Int)),.aB 1 3 1 1] ⟨[cS l,[.p (.int .i64 t)]],[]⟩=some (.val (.aB 2 3 (l.length+1) 1),⟨[[],[.p (.int .i64 t)],cS (dM l k t)],[]⟩):=by
  refine Qf ?_;rw[W8];unfold yW;have h1:(cS l).take l.length=cS l:=jC (by rw[FG];exact aV _);simp[-aU,h1,W4,Cx,FG,ajX,hk,hn,←ajV]
 have nQ:∀n,reach H n [i,j]=[i,j]
  | 0=>rfl
  |n+1=>by simp[reach,ef,hi,hj,JE,D.aD,D.refs]
 have hC:(H.bx.set i []).set j [.p (.int .i64 t)]=H.bx.set i []:=by
  apply oh;intro m;rw[vX];split
  ·rename_i e;subst e;obtain⟨a,b⟩:=az.1 hj;rw[if_pos (by simpa using a),dH cQ,hj]
  ·rfl
 have mY:¬j=i:=fun h=>cQ h.symm;have e1:ins [] (D.aD [.aB i 3 l.length 1,.p (.int .i64 ((k:Nat):Int)),.aB j 3 1 1])=[i,j]:=by simp[D.aD,D.refs,ins,mY]
 have e2:nodupB [i,j]=true:=by simp[nodupB,cQ]
 unfold av;simp only[e1,nQ];simp[D.bz,D.cJ,fX,hi,hj,JF,ins,nodupB,idx,cQ,D.ba,D.ren,aP,FE,hc,back,gM,bt.ren,cq,hC]
theorem W9{H:Hp}{j:Nat}{t:Int}{d:D}(hd:d= .p .aI∨d= .cI 3 1 [])(hj:H.bx[j]? =some [.p (.int .i64 t)]):
    av (call pg) 77 [d,.p (.int .i64 0),.aB j 3 1 1] H=some (.val (.aB H.bx.length 3 1 1),⟨H.bx++[cS [t]],H.tk⟩):=by
 have hc:call pg 77 [d,.p (.int .i64 0),.aB 0 3 1 1] ⟨[[.p (.int .i64 t)]],[]⟩=some (.val (.aB 1 3 1 1),⟨[[.p (.int .i64 t)],cS [t]],[]⟩):=by
  refine Qf ?_;rw[W8];rcases hd with rfl |rfl
  ·simp[yW,mK,aP,dM,cS]
  ·simp[yW,mK,aP,dM,cS]
 have nQ:∀n,reach H n [j]=[j]
  | 0=>rfl
  |n+1=>by simp[reach,ef,hj,D.aD,D.refs]
 have hC:H.bx.set j [.p (.int .i64 t)]=H.bx:=by
  apply oh;intro m;rw[vX];split
  ·rename_i e;subst e;obtain⟨a,b⟩:=az.1 hj;rw[if_pos a,hj]
  ·rfl
 have e0:D.aD [d]=[]∧D.bz [d]=[]∧∀f g,d.ren f g=some d:=by
  rcases hd with rfl |rfl<;>exact⟨rfl,rfl,fun _ _=>rfl⟩
 have Xa:d.refs=[]∧d.cJ=[]:=by
  rcases hd with rfl |rfl<;>exact⟨rfl,rfl⟩
 have e1:ins [] (D.aD [d,.p (.int .i64 0),.aB j 3 1 1])=[j]:=by simp[D.aD,D.refs,ins,Xa.1]
 unfold av;simp only[e1,nQ];simp[D.bz,D.cJ,Xa.2,fX,hj,ins,nodupB,idx,D.ba,D.ren,e0.2.2,aP,hc,back,gM,bt.ren,cq,hC,FE]
theorem OM{H:Hp}{i:Nat}(s:Sl Bool)(v:Nat)(_:(els s).length<4611686018427387904)(hv:v<4611686018427387904)(hi:H.bx[i]? =some [.p (dy s)]):
    av (call pg) 73 [.p (.int .i64 ((v+1 :Nat):Int)),.box i 0] H=some (.val (.p (.bool ((els s).getD v false))),H):=by
 have c1:IntKind.i64.wrap (((v+1 :Nat):Int)-1)=((v:Nat):Int):=by rw[wrap64 (by omega) (by omega)];omega
 have hc:call pg 73 [.p (.int .i64 ((v+1 :Nat):Int)),.box 0 0] ⟨[[.p (dy s)]],[]⟩=some (.val (.p (.bool ((els s).getD v false))),⟨[[.p (dy s)]],[]⟩):=by
  have hf:=rf TR
  conv at hf=>rhs;reduce
  refine zH (cs:=[dy s]) hf rfl rfl rfl ?_;clear hf;by_cases h:v<(els s).length
  ·have h2:(((v+1 :Nat):Int))≤(((els s).length:Nat):Int):=by omega
   have h3:(els s).getD v false=(els s)[v]:=by simp[fE,h]
   rw[h3];generalize ((v+1 :Nat):Int)=m1 at *;simp[pP,zJ h,h2,c1]
  ·have h2:¬(((v+1 :Nat):Int))≤(((els s).length:Nat):Int):=by omega
   have h3:(els s).getD v false=false:=by simp[fE,h]
   rw[h3];generalize ((v+1 :Nat):Int)=m1 at *;simp[pP,h2]
 have nQ:∀n,reach H n [i]=[i]
  | 0=>rfl
  |n+1=>by simp[reach,ef,hi,D.aD,D.refs]
 have hC:H.bx.set i [.p (dy s)]=H.bx:=by
  apply oh;intro m;rw[vX];split
  ·rename_i e;subst e;obtain⟨a,b⟩:=az.1 hi;rw[if_pos a,hi]
  ·rfl
 have e1:ins [] (D.aD [.p (.int .i64 ((v+1 :Nat):Int)),.box i 0])=[i]:=by simp[D.aD,D.refs,ins]
 generalize (els s).getD v false=b at *;generalize ((v+1 :Nat):Int)=m1 at *;unfold av;simp only[e1,nQ];simp[D.bz,D.cJ,fX,hi,ins,nodupB,idx,D.ba,D.ren,aP,hc,back,gM,bt.ren,cq,hC]
theorem ajY{f:Nat}{fc:FC}{aa:List D}{e n sz:Nat}{ps:List PD}(hF:pg.F f=some fc)(kP:pg.lib f aa ⟨[],[]⟩=none)(hn:aa.length=fc.np)(hd:fc.iu=none)(hz:fc.aH=false)(hr:D.aD aa=[])(ht:D.bz aa=[])(ha:D.ba (idx []) (idx []) aa=some aa)
    (h:post (fun o e1 H=>(o= .ret∨o= .norm)∧lX pg.G e1 H fc.res=some (.aB 0 e n sz)∧H=⟨[ps.map .p],[]⟩) (ay (call pg) pg.G bf fc.body ⟨entry 0 aa,⟨[],[]⟩⟩)):
    ∀H,av (call pg) f aa H=some (.val (.aB H.bx.length e n sz),⟨H.bx++[ps.map .p],H.tk⟩):=by
 intro H;obtain⟨o,e1,H1,hx,ho,iC,rfl⟩:=bJ h;have dY:finish pg.G fc.res (some (o,⟨e1,⟨[ps.map .p],[]⟩⟩))=some (.val (.aB 0 e n sz),⟨[ps.map .p],[]⟩):=by
  rcases ho with rfl |rfl
  ·simp only[finish,iC]
  ·simp only[finish,iC]
 have hc:call pg f aa ⟨[],[]⟩=some (.val (.aB 0 e n sz),⟨[ps.map .p],[]⟩):=tF kP hF hn (by simp only[hz,mO,iT,hd,hx,dY];rfl);unfold av;have e1:ins [] (D.aD aa)=[]:=by rw[hr];rfl
 have e2:fX H []=[]:=rfl;simp[e1,qX,ht,e2,ins,Vs.nodupB,ha,aP,hc,back,gM,bt.ren,D.ren,iM,cq]
theorem ajZ:∀H,av (call pg) 74 [.p .aI] H=some (.val (.p .aI),H):=by
 have hf:=rf Ip
 conv at hf=>rhs;reduce
 refine aG (aa:=[_]) hf rfl rfl rfl ?_;clear hf;simp[D.Ak]
theorem aj0:∀H,av (call pg) 74 [.p (.emp 1)] H=some (.val (.cI 3 1 []),H):=by
 have hf:=rf Ip
 conv at hf=>rhs;reduce
 refine aG (aa:=[_]) hf rfl rfl rfl ?_;clear hf;simp[D.Ak,ow,gL,mK];simp[fin,D.ren]
theorem ON:∀r:List Int,(r.map fun x=>PD.int .i64 x).flatMap PD.cells=r.map fun x=>PD.int .i64 x
 |[]=>rfl
 |x::r=>by rw[dA,ub,ON r];rfl
theorem aj1(x:Int)(r:List Int)(hl:r.length≤100000):∀H,av (call pg) 74 [.p (.slice 1 ((x::r).map fun x=>.int .i64 x))] H=some (.val (.aB H.bx.length 3 (r.length+1) 1),⟨H.bx++[((x::r).map fun x=>PD.int .i64 x).map .p],H.tk⟩):=by
 have hr:roomy (r.length+1) 8=true:=by simp[roomy];omega
 have hf:=rf Ip
 conv at hf=>rhs;reduce
 refine ajY hf rfl rfl rfl rfl rfl rfl rfl ?_;clear hf;simp[D.Ak,ow,gL,mK,hr];rw[ON,uf]
theorem aj2(x:Int):∀H,av (call pg) 69 [.cI 3 1 [],.p (.int .i64 x)] H=some (.val (.bA [.p (.int .i64 0),.p (.bool false)]),H):=by
 have key:=jd (c:=call pg) (G:=pg.G) (keep:=[0,1,6,7,8]) (b:=bd ng 0) (fun _=>[(0,.cI 3 1 []),(1,.p (.int .i64 x)),(6,.p (.int .i64 0)),(7,.p (.int .i64 0)),(8,.p (.int .i64 0))]) (fun _=>⟨[],[]⟩) 0 (fun _=>True)
  (fun o e H=>H=⟨[],[]⟩∧o= .exit 0∧e.get 0= .cI 3 1 []∧e.get 1= .p (.int .i64 x)∧e.get 6= .p (.int .i64 0)∧e.get 7= .p (.int .i64 0)) trivial
  (fun i hi _=>absurd hi (Ai _))
  (fun _=>by
   conv in bd ng 0=>reduce
   simp)
 obtain⟨o,e,H,hx,rfl,rfl,g0,g1,g6,g7⟩:=bJ key;have ae:=rf (bd ng 0)
 conv at ae=>rhs;reduce
 have hf:=rf ng
 conv at hf=>rhs;reduce
 rw[←ae] at hf;refine tN hf rfl rfl rfl rfl rfl rfl ?_;clear hf ae;simp[hx,g6,g7]
inductive gy (H:Hp):D→List Int→Prop where
 |aI:gy H (.p .aI) []
 |emp:gy H (.cI 3 1 []) []
 |row (i:Nat) (l:List Int) (hi:H.bx[i]? =some (cS l)) (hl:l≠[]):gy H (.aB i 3 l.length 1) l
theorem aj3(x:Int):At [] x 0:=⟨aV _,fun _ h=>absurd h (Ai _),fun _ h=>absurd h (Ai _)⟩
theorem gy.search{H:Hp}{d:D}{l:List Int}(r:gy H d l)(x:Int)(hl:l.length<4611686018427387904)(hs:dw l):
    ∃k:Nat,At l x k∧av (call pg) 69 [d,.p (.int .i64 x)] H=some (.val (.bA [.p (.int .i64 ((k:Nat):Int)),.p (.bool (decide (x∈l)))]),H):=by
 cases r with
 |aI=>
  obtain⟨k,h1,h2⟩:=Oo .nil x (by simp[els]) (by simp[els,dw]);exact⟨k,h1,h2 H⟩
 |emp=>exact⟨0,aj3 x,by simpa using aj2 x H⟩
 |row i l hi aq=>
  obtain⟨k,h1,h2⟩:=ajS l x hl hs;exact⟨k,h1,h2 H i hi⟩
def dS:D→List Nat
 | .aB i _ _ _=>[i]
 |_=>[]
theorem gy.insert{H:Hp}{d:D}{l:List Int}(r:gy H d l){j k:Nat}{t:Int}(hj:H.bx[j]? =some [.p (.int .i64 t)])(OO:j∉dS d)(hk:k≤l.length)(hn:l.length<1000000):
    ∃bx,av (call pg) 77 [d,.p (.int .i64 ((k:Nat):Int)),.aB j 3 1 1] H=some (.val (.aB H.bx.length 3 (l.length+1) 1),⟨bx++[cS (dM l k t)],H.tk⟩)∧bx.length=H.bx.length∧(∀m,m∉dS d→bx[m]? =H.bx[m]?)∧∀(m:Nat) cs,bx[m]? =some cs→H.bx[m]? =some cs∨cs=[]:=by
 have tz:l=[]→k=0:=fun h=>by subst h;simpa using hk
 cases r with
 |aI=>
  obtain rfl:=tz rfl;exact⟨H.bx,W9 (.inl rfl) hj,rfl,fun _ _=>rfl,fun _ _ h=>.inl h⟩
 |emp=>
  obtain rfl:=tz rfl;exact⟨H.bx,W9 (.inr rfl) hj,rfl,fun _ _=>rfl,fun _ _ h=>.inl h⟩
 |row i l hi aq=>
  have cQ:i≠j:=fun h=>OO (by simp[dS,h]);refine⟨H.bx.set i [],ajW cQ hi hj aq hk hn,by simp,fun m hm=>?_,fun m cs hm=>?_⟩
  ·have :i≠m:=fun h=>hm (by simp[dS,h]);rw[dH this]
  ·rw[vX] at hm;split at hm
   ·split at hm
    ·cases hm;exact .inr rfl
    ·cases hm
   ·exact .inl hm
theorem gy.other{H H':Hp}{d:D}{l:List Int}(r:gy H d l)(h:∀m∈dS d,H'.bx[m]? =H.bx[m]?):gy H' d l:=by
 cases r with
 |aI=>exact .aI
 |emp=>exact .emp
 |row i l hi aq=>exact .row i l (by rw[h i (by simp[dS]),hi]) aq
inductive cL where
 |none
 |model
 |states
 |state (s:Nat)
 |row (s f:Nat)
 |pU (n:Nat)
def jl(H:Hp)(lab:Nat→cL)(s:Nat)(d:D)(R:List (Int×List Int)):Prop:=
 (d= .p .aI∧R=[])∨∃k cs,d= .aB k 85 R.length 2∧lab k= .state s∧H.bx[k]? =some cs∧cs.length=R.length*2∧
  ∀(f:Nat) (a:Int) (l:List Int),R[f]? =some (a,l)→cs[2*f]? =some (.p (.int .i64 a))∧∃d',cs[2*f+1]? =some d'∧gy H d' l∧∀i∈dS d',lab i= .row s f
def OP(H:Hp)(lab:Nat→cL)(sd:D)(S:List (List (Int×List Int))):Prop:=
 (sd= .p .aI∧S=[])∨∃s0 ds,sd= .aB s0 78 S.length 1∧lab s0= .states∧H.bx[s0]? =some ds∧ds.length=S.length∧
  ∀(s:Nat) R,S[s]? =some R→∃d,ds[s]? =some d∧jl H lab s d R
def n6(H:Hp)(lab:Nat→cL)(m:Nat)(at_:D)(st lp:Int)(S:List (List (Int×List Int))):Prop:=
 lab m= .model∧∃sd,H.bx[m]? =some [at_,.p (.int .i64 st),sd,.p (.int .i64 lp)]∧OP H lab sd S
theorem jl.other{H H':Hp}{lab dG:Nat→cL}{s:Nat}{d:D}{R:List (Int×List Int)}(r:jl H lab s d R)
    (h:∀m,(lab m= .state s∨∃f,lab m= .row s f)→(dG m=lab m∧∀cs,H.bx[m]? =some cs→H'.bx[m]? =some cs)):jl H' dG s d R:=by
 rcases r with⟨h1,h2⟩ |⟨k,cs,h1,h2,h3,h4,h5⟩
 ·exact .inl ⟨h1,h2⟩
 ·refine .inr ⟨k,cs,h1,((h k (.inl h2)).1.trans h2),(h k (.inl h2)).2 _ h3,h4,fun f a l hf=>?_⟩;obtain⟨q1,d',q2,q3,q4⟩:=h5 f a l hf;refine⟨q1,d',q2,?_,fun i hi=>(h i (.inr ⟨f,q4 i hi⟩)).1.trans (q4 i hi)⟩;cases q3 with
  |aI=>exact .aI
  |emp=>exact .emp
  |row i l hb aq=>exact .row i l ((h i (.inr ⟨f,q4 i (by simp[dS])⟩)).2 _ hb) aq
theorem n6.ext{H H':Hp}{lab:Nat→cL}{m:Nat}{at_:D}{st lp:Int}{S:List (List (Int×List Int))}(r:n6 H lab m at_ st lp S)(h:∀(i:Nat) cs,H.bx[i]? =some cs→H'.bx[i]? =some cs):n6 H' lab m at_ st lp S:=by
 obtain⟨h1,sd,h2,h3⟩:=r;refine⟨h1,sd,h _ _ h2,?_⟩;rcases h3 with h3 |⟨s0,ds,q1,q2,q3,q4,q5⟩
 ·exact .inl h3
 ·refine .inr ⟨s0,ds,q1,q2,h _ _ q3,q4,fun s R hR=>?_⟩;obtain⟨d,w1,w2⟩:=q5 s R hR;exact⟨d,w1,w2.other fun m _=>⟨rfl,fun cs ak=>h _ _ ak⟩⟩
theorem n6.ins{H:Hp}{lab:Nat→cL}{m:Nat}{at_:D}{st lp:Int}{S:List (List (Int×List Int))}(r:n6 H lab m at_ st lp S){s f:Nat}{R:List (Int×List Int)}{a:Int}{l l':List Int}(hR:S[s]? =some R)(hf:R[f]? =some (a,l))(nG:l'≠[]):
    ∃s0 ds k cs d',H.bx[m]? =some [at_,.p (.int .i64 st),.aB s0 78 S.length 1,.p (.int .i64 lp)]∧H.bx[s0]? =some ds∧ds.length=S.length∧ds[s]? =some (.aB k 85 R.length 2)∧lab k= .state s∧H.bx[k]? =some cs∧cs.length=R.length*2∧cs[2*f+1]? =some d'∧gy H d' l∧k∉dS d'∧
     ∀(bx:List (List D)) (tk:List Nat),bx.length=H.bx.length→(∀j,j∉dS d'→bx[j]? =H.bx[j]?)→lab H.bx.length= .none→
      ∃dG,n6 ⟨(bx++[cS l']).set k (cs.set (2*f+1) (.aB H.bx.length 3 l'.length 1)),tk⟩ dG m at_ st lp (S.set s (R.set f (a,l')))∧(∀j,j≠H.bx.length→dG j=lab j)∧dG H.bx.length≠.none∧
          ∀j n bL,lab j= .pU n→H.bx[j]? =some bL→((bx++[cS l']).set k (cs.set (2*f+1) (.aB H.bx.length 3 l'.length 1)))[j]? =some bL:=by
 obtain⟨h1,sd,h2,h3⟩:=r;rcases h3 with⟨-,rfl⟩ |⟨s0,ds,rfl,q2,q3,q4,q5⟩
 ·simp at hR
 obtain⟨d,w1,w2⟩:=q5 s R hR;rcases w2 with⟨-,rfl⟩ |⟨k,cs,rfl,w3,w4,w5,w6⟩
 ·simp at hf
 obtain⟨e1,d',e2,e3,e4⟩:=w6 f a l hf;have hk:k∉dS d':=fun h=>by have:=e4 k h;rw[w3] at this;cases this
 refine⟨s0,ds,k,cs,d',h2,q3,q4,w1,w3,w4,w5,e2,e3,hk,fun bx tk fA bX mT=>?_⟩;have jG:k<H.bx.length:=(az.1 w4).1;have keep:∀j bL,lab j≠.none→lab j≠.state s→lab j≠.row s f→H.bx[j]? =some bL→((bx++[cS l']).set k (cs.set (2*f+1) (.aB H.bx.length 3 l'.length 1)))[j]? =some bL:=by
  intro j bL n0 n1 n2 hj;have hjk:k≠j:=fun h=>n1 (by rw[←h];exact w3);have OO:j∉dS d':=fun h=>n2 (e4 j h);have nL:j<bx.length:=by rw[fA];exact(az.1 hj).1
  rw[dH hjk,cH nL,bX j OO,hj]
 have oK:∀j,lab j≠.none→j≠H.bx.length:=fun j h e=>h (by rw[e];exact mT);obtain⟨dG,dU,ym⟩:∃dG:Nat→cL,(∀j,j≠H.bx.length→dG j=lab j)∧dG H.bx.length= .row s f:=
  ⟨fun j=>if j=H.bx.length then .row s f else lab j,fun j hj=>by simp[hj],by simp⟩
 refine⟨dG,⟨?_,.aB s0 78 S.length 1,?_,.inr ⟨s0,ds,by simp,?_,?_,by simpa using q4,?_⟩⟩,dU,by rw[ym];simp,fun j n bL hj=>keep j bL (by rw[hj];simp) (by rw[hj];simp) (by rw[hj];simp)⟩
 ·rw[dU _ (oK m (by rw[h1];simp))];exact h1
 ·exact keep m _ (by rw[h1];simp) (by rw[h1];simp) (by rw[h1];simp) h2
 ·rw[dU _ (oK s0 (by rw[q2];simp))];exact q2
 ·exact keep s0 _ (by rw[q2];simp) (by rw[q2];simp) (by rw[q2];simp) q3
 ·intro s' R' mA;by_cases hs:s'=s
  ·subst hs;have dk:s'<S.length:=(az.1 hR).1;rw[j9 dk] at mA;cases mA;refine⟨_,w1,.inr ⟨k,cs.set (2*f+1) (.aB H.bx.length 3 l'.length 1),by simp,?_,?_,by simpa using w5,?_⟩⟩
   ·rw[dU _ (oK k (by rw[w3];simp))];exact w3
   ·rw[j9 (by simp;omega)]
   ·intro f' a' l'' yN;have fQ:f<R.length:=(az.1 hf).1;by_cases lO:f'=f
    ·subst lO;rw[j9 fQ] at yN;cases yN;refine⟨by rw[dH (by omega)];exact e1,_,j9 (by omega),.row _ _ ?_ nG,fun i hi=>?_⟩
     ·show((bx++[cS l']).set k _)[H.bx.length]? =_;rw[dH (by omega),←fA];simp
     ·have :i=H.bx.length:=by simpa[dS] using hi
      rw[this,ym]
    ·rw[dH (Ne.symm lO)] at yN;obtain⟨g1,d2,g2,g3,g4⟩:=w6 f' a' l'' yN;refine⟨by rw[dH (by omega)];exact g1,d2,by rw[dH (by omega)];exact g2,?_,fun i hi=>?_⟩
     ·cases g3 with
      |aI=>exact .aI
      |emp=>exact .emp
      |row i l3 hb aq=>
       have hi:=g4 i (by simp[dS]);refine .row i _ (keep i _ (by rw[hi];simp) (by rw[hi];simp) (by rw[hi];simp[lO]) hb) aq
     ·have bp:=g4 i hi;rw[dU _ (oK i (by rw[bp];simp))];exact bp
  ·rw[dH (Ne.symm hs)] at mA;obtain⟨d,u1,u2⟩:=q5 s' R' mA;refine⟨d,u1,u2.other fun j hj=>⟨?_,fun bL jS=>?_⟩⟩
   ·rcases hj with h |⟨f',h⟩
    ·rw[dU _ (oK j (by rw[h];simp))]
    ·rw[dU _ (oK j (by rw[h];simp))]
   ·rcases hj with h |⟨f',h⟩
    ·exact keep j _ (by rw[h];simp) (by rw[h];simp[hs]) (by rw[h];simp) jS
    ·exact keep j _ (by rw[h];simp) (by rw[h];simp) (by rw[h];simp[hs]) jS
theorem pq{H:Hp}{ids:List Nat}{i:Nat}{cs:List D}(hi:i∈ids)(hc:H.bx[i]? =some cs):(sF H ids).bx[eI ids i]? =some (D.dn (eI ids) cs):=by
 unfold sF;simp only;rw[cP,yT hi];simp[fE,hc]
theorem Xb(g:Nat→Nat):∀(ps:List PD),D.dn g (ps.map .p)=ps.map .p
 |[]=>rfl
 |p::ps=>by simp[D.dn,D.mv,Xb g ps]
theorem Xc(g:Nat→Nat)(l:List Int):D.dn g (cS l)=cS l:=Xb g _
theorem Cy{g:Nat→Nat}{cs:List D}{j:Nat}{d:D}(h:cs[j]? =some d):(D.dn g cs)[j]? =some (d.mv g):=by
 rw[Bd,cP,h];rfl
theorem JG{cs:List D}{j:Nat}{d:D}(h:cs[j]? =some d):∀x∈d.refs,x∈D.aD cs:=by
 induction cs generalizing j with
 |nil=>simp at h
 |cons c cs ih=>
  intro x hx;simp only[D.aD,cW];cases j with
  |zero=>cases h;exact .inl hx
  |succ j=>exact .inr (ih (by simpa using h) x hx)
def zX(lab:Nat→cL)(ids:List Nat)(j:Nat):cL:=if j<ids.length then lab (ids.getD j 0) else .none
theorem vJ{lab:Nat→cL}{ids:List Nat}{i:Nat}(h:i∈ids):zX lab ids (eI ids i)=lab i:=by
 obtain⟨h2,h3⟩:=az.1 (yT h);simp[zX,h2,fE,h3]
theorem gy.sub{H:Hp}{ids:List Nat}{d:D}{l:List Int}(r:gy H d l)(h:∀i∈dS d,i∈ids):gy (sF H ids) (d.mv (eI ids)) l∧∀j∈dS (d.mv (eI ids)),∃i∈dS d,j=eI ids i:=by
 cases r with
 |aI=>exact⟨.aI,fun j hj=>by cases hj⟩
 |emp=>exact⟨.emp,fun j hj=>by cases hj⟩
 |row i l hi aq=>
  have h1:=h i (by simp[dS]);refine⟨.row _ _ (by rw[pq h1 hi,Xc]) aq,fun j hj=>⟨i,by simp[dS],?_⟩⟩;simpa[D.mv,dS] using hj
theorem FH{d:D}:∀i∈dS d,i∈d.refs:=by
 intro i h;cases d<;>simp_all[dS,D.refs]
theorem n6.sub{H:Hp}{ids:List Nat}{lab:Nat→cL}{m:Nat}{at_:D}{st lp:Int}{S:List (List (Int×List Int))}(r:n6 H lab m at_ st lp S)(hs:vn H ids)(hm:m∈ids):
    n6 (sF H ids) (zX lab ids) (eI ids m) (at_.mv (eI ids)) st lp S:=by
 obtain⟨h1,sd,h2,h3⟩:=r;refine⟨by rw[vJ hm];exact h1,sd.mv (eI ids),by rw[pq hm h2];rfl,?_⟩;rcases h3 with⟨rfl,rfl⟩ |⟨s0,ds,rfl,q2,q3,q4,q5⟩
 ·exact .inl ⟨rfl,rfl⟩
 have i0:s0∈ids:=hs m hm _ h2 s0 (by simp[D.aD,D.refs]);refine .inr ⟨eI ids s0,_,rfl,by rw[vJ i0];exact q2,pq i0 q3,by rw[Bd,cx];exact q4,fun s R hR=>?_⟩;obtain⟨d,w1,w2⟩:=q5 s R hR;refine⟨_,Cy w1,?_⟩;rcases w2 with⟨rfl,rfl⟩ |⟨k,cs,rfl,w3,w4,w5,w6⟩
 ·exact .inl ⟨rfl,rfl⟩
 have ik:k∈ids:=hs s0 i0 _ q3 k (JG w1 k (by simp[D.refs]));refine .inr ⟨eI ids k,_,rfl,by rw[vJ ik];exact w3,pq ik w4,by rw[Bd,cx];exact w5,fun f a l hf=>?_⟩;obtain⟨e1,d',e2,e3,e4⟩:=w6 f a l hf;have ir:∀i∈dS d',i∈ids:=fun i hi=>hs k ik _ w4 i (JG e2 i (FH i hi));obtain⟨g1,g2⟩:=e3.sub ir;refine⟨Cy e1,_,Cy e2,g1,fun j hj=>?_⟩;obtain⟨i,hi,rfl⟩:=g2 j hj;rw[vJ (ir i hi)];exact e4 i hi
end Go.Proofs.YtgplgbonlnodeaaGreatDoor
end
