/-
  Decode of an encoding is the model (plain lists); the reference's Equal.
-/
import Derived.Test.YtgplgbonlnodeaaGreatDoorG8
open Int renaming natCast_inj→pZ,toNat_natCast→qF
open List renaming ext_getElem?→oh,getD_eq_getElem?_getD→fE,getElem?_append_left→cH,getElem?_append_right→eL,getElem?_eq_getElem→aA,getElem?_eq_none→lU,getElem?_eq_some_iff→az,getElem?_map→cP,getElem?_of_mem→eC,getElem_mem→bO,length→oq,length_map→cx,length_replicate→CQ,mem_of_getElem?→bS
open Nat renaming le_refl→aV,lt_or_ge→iP,zero_add→eS,zero_le→b9
open Option renaming map_some→eA
open Option.some renaming injEq→bI
open Prod renaming mk→lB
namespace Go.Proofs.YtgplgbonlnodeaaGreatDoor
open Go.Vs
attribute [local simp] cF aN fF put Env.get Env.keep entry aw.ev ph uk aE cutAt uj D.rJ D.lC u8 vZ ui v5 kB sub v7 p8 PD.eqv jP cls gN rL bq kC nD pj eP qL finish lX qM aP D.aD D.refs D.bz D.cJ ec gU aO ov fj eF D.iR D.eM qF rK sX qJ D.jn aU A8 A9 wL Ba Bb jL B7 gives nx B2 B3 B4 pZ zz dJ below Out.ren D.ren D.ba zF B6 BK BL BM tL zA BN BO BP BQ BR BS BT zC BU BV BW BX zD wZ BZ
set_option maxRecDepth 100000
theorem al5(fi:List Fi)(bb:List Bn)(st lp:Int)(ss:List (Sl Rl)){i:Nat}(h:i<aW st):(fL fi bb st lp ss).getD i false=(preB st lp).getD i false:=by
 unfold fL;rw[fE,cH (by rw[Fs];exact h),←fE]
theorem al6(fi:List Fi)(bb:List Bn)(st lp:Int)(ss:List (Sl Rl)){e:Nat×Nat×Int×Int}(he:e∈dX fi bb st):(fL fi bb st lp ss).getD (e.1-1) false=nZ ss e:=by
 obtain⟨j,hj⟩:=eC he;have hv:=Cp (fi.map Fi.va) (cB 0 bb) st.toNat 0 (aW st) j e hj;have cg:=Fs st lp;unfold fL;rw[fE,eL (by omega),cg,show e.1-1-aW st=j by omega,cP,hj];rfl
theorem Yl{fi:List Fi}{bb:List Bn}{st lp:Int}{ss:List (Sl Rl)}(eR:0≤lp∧lp<st)(h1:1<st):∀k,k≤aW st→fq (fL fi bb st lp ss) st k=if(st-lp-1).toNat<k then(1,lp) else(0,0)
 | 0,_=>by rw[if_neg (by omega)];rfl
 |k+1,hk=>by
  have ih:=Yl (fi:=fi) (bb:=bb) (ss:=ss) eR h1 k (by omega);have hb:=al5 fi bb st lp ss (i:=k) (by omega);rw[X1 eR h1 (by omega)] at hb;simp only[fq];rw[hb,ih];by_cases h:(k:Int)=st-lp-1
  ·rw[if_pos (by simpa using h),if_neg (by omega),if_pos (by omega)];simp only[eS,lB.injEq,true_and];omega
  ·rw[if_neg (by simpa using h)];by_cases h2:(st-lp-1).toNat<k
   ·rw[if_pos h2,if_pos (by omega)]
   ·rw[if_neg h2,if_neg (by omega)]
theorem Ym{fi:List Fi}{bb:List Bn}{st lp:Int}{ss:List (Sl Rl)}(eR:0≤lp∧lp<st)(h1:1<st):fq (fL fi bb st lp ss) st (aW st)=(1,lp):=by
 rw[Yl eR h1 _ (aV _),if_pos];unfold aW;rw[if_pos h1];omega
theorem al7{fi:List Fi}{bb:List Bn}{st lp:Int}{ss:List (Sl Rl)}(eR:0≤lp∧lp<st):iG (fL fi bb st lp ss) st (aW st)=lp:=by
 by_cases h1:1<st
 ·rw[Pb,Ym eR h1]
 ·have :aW st=0:=by unfold aW;rw[if_neg h1]
  rw[this];simp only[iG];omega
theorem al8{sp:Sp}{m:Mo}{bs:Sl Bn}(ok:iF sp m.a m.st bs)(hv:qz sp m)(hi:zW bs m):
    iO (els sp.fi) (els bs) m.st (fL (els sp.fi) (els bs) m.st m.lp (els m.ss))=(els m.ss).map stM:=by
 obtain⟨q1,q2,q3,q4,q5⟩:=(Cv ok.mC.fd).1 hv;have hlen:=ok.len;have hvk:=Ac (fi:=els sp.fi) (st:=m.st) ok.sup;apply oh;intro s;rcases iP s m.st.toNat with hs |hs
 rotate_left
 ·have h1:(iO (els sp.fi) (els bs) m.st (fL (els sp.fi) (els bs) m.st m.lp (els m.ss))).length≤s:=by unfold iO;rw[JZ,CQ];exact hs
  rw[lU h1,lU (by rw[cx];omega)]
 have dk:s<(els m.ss).length:=by omega
 have hx:(els m.ss)[s]? =some (els m.ss)[s]:=aA dk;have Yn:=bO dk;generalize (els m.ss)[s]=x at *;obtain⟨x1,x2⟩:=q5 x Yn;obtain⟨y1,y2⟩:=hi x Yn;have qV:s<(iO (els sp.fi) (els bs) m.st (fL (els sp.fi) (els bs) m.st m.lp (els m.ss))).length:=by unfold iO;rw[JZ,CQ];exact hs
 have hd:=aA qV;generalize hD:(iO (els sp.fi) (els bs) m.st (fL (els sp.fi) (els bs) m.st m.lp (els m.ss)))[s]=R at *;rw[hd,cP,hx];simp only[eA,bI];have xw:∀f,R[f]? =rowOf (iO (els sp.fi) (els bs) m.st (fL (els sp.fi) (els bs) m.st m.lp (els m.ss))) s f:=fun f=>by
  unfold rowOf;rw[hd];rfl
 apply oh;intro f;rw[xw];unfold stM;rw[cP];cases hb:(els bs)[f]? with
 |none=>
  have h2:=List.getElem?_eq_none_iff.1 hb;unfold iO;rw[O6 _ _ _ _ _ hs hb,lU (by omega)];rfl
 |some b=>
  have fQ:=(az.1 hb).1;have m9:=bS hb;obtain⟨h3,h4⟩:=FP (fi:=els sp.fi) hvk (fL (els sp.fi) (els bs) m.st m.lp (els m.ss)) hs hb (ok.sR b m9);have hfx:f<(els x).length:=by omega
  have hr:=aA hfx;generalize (els x)[f]=r at *;have lO:f<(els sp.fi).length:=by omega
  have xr:=aA lO;obtain⟨z1,z2,z3,z4⟩:=x2 f lO _ r xr hr;obtain⟨w1,w2,w3,w4⟩:=y2 f fQ b r hb hr;unfold iO;rw[h3,hr];simp only[eA,bI,lB.injEq];refine⟨w1,XP h4 (xq z2) fun t=>?_⟩;rw[J6 ok hb];have Fz:∀e∈dX (els sp.fi) (els bs) m.st,(fL (els sp.fi) (els bs) m.st m.lp (els m.ss)).getD (e.1-1) false=nZ (els m.ss) e:=fun e he=>al6 _ _ _ _ _ he;have cC:∀e∈dX (els sp.fi) (els bs) m.st,oa ((els sp.fi).map Fi.va) e s f=true→(nZ (els m.ss) e=true↔e.2.2.2∈els r.tu):=fun e he hh=>by
   obtain⟨hf,Pn⟩:=vM.1 hh;have hrel:∃x',(els m.ss)[e.2.1]? =some x'∧Cq x' f=els r.tu:=by
    rcases Pn with Pn |⟨h0,pT⟩
    ·exact⟨x,by rw[←Pn];exact hx,Pd hr⟩
    ·have Yo:0<(els m.ss).length:=by omega
     have rT:=aA Yo;obtain⟨k1,k2⟩:=q5 _ (bO Yo);have zp:f<(els (els m.ss)[0]).length:=by omega
     have oH:=aA zp;refine⟨_,by rw[h0];exact rT,?_⟩;rw[Pd oH];rw[←hf,fE,cP,xr] at pT;exact((z4 pT _ _ rT oH).2).symm
   obtain⟨x',g1,g2⟩:=hrel;unfold nZ;rw[g1];simp only;rw[←hf,g2];simp
  constructor
  ·rintro (h |⟨e,he,h5,h6,rfl⟩)
   ·exact w3 t h
   ·rw[Fz e he] at h5;exact(cC e he h6).1 h5
  ·intro h;by_cases dU:t∈els b.lo.tu
   ·exact .inl dU
   ·right;have iy:((f:Int),t)∈cB 0 (els bs):=(CI _ 0 _).2 ⟨f,b,hb,by simp,w4 t h,dU⟩;obtain⟨s',e1,e2,e3⟩:∃s',s'<m.st.toNat∧nT ((els sp.fi).map Fi.va) s' (f:Int)=false∧(s=s'∨s'=0∧((els sp.fi).map Fi.va).getD f false=false):=by
     cases pT:((els sp.fi).map Fi.va).getD f false with
     |true=>exact⟨s,hs,by unfold nT;rw[qF,pT];simp,.inl rfl⟩
     |false=>exact⟨0,by omega,by simp[nT],.inr ⟨rfl,rfl⟩⟩
    obtain⟨e,he,hk⟩:=XT ((els sp.fi).map Fi.va) (cB 0 (els bs)) iy m.st.toNat 0 (aW m.st) s' (b9 _) (by omega) e2;have k1:e.2.1=s':=congrArg Prod.fst hk;have k2:e.2.2.1=(f:Int):=congrArg (fun k=>k.2.1) hk;have k3:e.2.2.2=t:=congrArg (fun k=>k.2.2) hk;have Yp:oa ((els sp.fi).map Fi.va) e s f=true:=vM.2 ⟨by rw[k2];simp,by rw[k1,k2,qF];exact e3⟩;refine⟨e,he,?_,Yp,k3⟩;rw[Fz e he];exact(cC e he Yp).2 (by rw[k3];exact h)
theorem amc(x y:Sl Rl)(h:stM x=stM y)(hl:(els x).length<4611686018427387904)(kT:∀r∈els x,(els r.tu).length<4611686018427387904):∀H,av (call pg) 72 [.p (iN x),.p (iN y)] H=some (.val (.p (.bool true)),H):=by
 have hlen:(els x).length=(els y).length:=by
  have:=congrArg oq h;simpa[stM] using this
 have lx:=je x;have ly:=je y;rw[←hlen] at ly;have key:=jd (c:=call pg) (G:=pg.G) (keep:=[0,1,5]) (b:=bd Bi 0) (fun i=>[(0,.p (iN x)),(1,.p (iN y)),(5,.p (.int .i64 ((i:Nat):Int)))]) (fun _=>⟨[],[]⟩) (els x).length (fun _=>True) (fun o e H=>o= .exit 0∧H=⟨[],[]⟩) trivial
  (fun i hi _=>by
   have bp:i<(els y).length:=by omega
   have ia:=mn hi;have ib:=mn bp;have he:((els x)[i].ar,els (els x)[i].tu)=((els y)[i].ar,els (els y)[i].tu):=by
    have:=congrArg (fun l=>l[i]?) h;simpa[stM,hi,bp] using this
   obtain⟨r,c,d⟩:=NU (els x)[i].tu (els y)[i].tu (els x)[i].ar (els y)[i].ar (kT _ (bO hi));have:=d.2 (by simpa using he);subst this;have inc:=bw (k:=i) (by omega);generalize (els x)[i]=p at *;generalize (els y)[i]=q at *
   conv in bd Bi 0=>reduce
   simp[lx,hi,ia,ib,c,inc])
  (fun _=>by
   conv in bd Bi 0=>reduce
   simp[lx])
 obtain⟨o,e,H,hx,rfl,rfl⟩:=bJ key;simp at hx;have ae:=rf (bd Bi 0)
 conv at ae=>rhs;reduce
 have hf:=rf Bi
 conv at hf=>rhs;reduce
 rw[←ae] at hf;refine aG (aa:=[_,_]) hf rfl rfl rfl ?_;clear hf ae;simp[lx,ly,hx]
theorem amd{x y:Mo}(ha:els x.a=els y.a)(cC:x.st=y.st)(eR:x.lp=y.lp)(ni:(els x.ss).map stM=(els y.ss).map stM)(ij:(els x.a).length<4611686018427387904)(dk:(els x.ss).length<4611686018427387904)(oP:∀z∈els x.ss,(els z).length<4611686018427387904∧∀r∈els z,(els r.tu).length<4611686018427387904):
    ∀H,av (call pg) 23 [.p (.agg [af x.a,.int .i64 x.st,bK x.ss,.int .i64 x.lp]),.p (.agg [af y.a,.int .i64 y.st,bK y.ss,.int .i64 y.lp])] H=some (.val (.p (.bool true)),H):=by
 obtain⟨r,c29,d⟩:=agF x.a y.a ij;have:=d.2 ha;subst this;have hlen:(els x.ss).length=(els y.ss).length:=by
  have:=congrArg oq ni;simpa using this
 have lx:=eJ x.ss;have ly:=eJ y.ss;rw[←hlen] at ly;obtain⟨xa,Ad,Ae,CM⟩:=x;obtain⟨ya,J9,CN,ylp⟩:=y;dsimp only at *;subst cC eR;have key:=jd (c:=call pg) (G:=pg.G) (keep:=[2,3,5]) (b:=bd yX 0) (fun i=>[(2,.box 0 0),(3,.box 1 0),(5,.p (.int .i64 ((i:Nat):Int)))]) (fun _=>⟨[[.p (af xa),.p (.int .i64 Ad),.p (bK Ae),.p (.int .i64 CM)],[.p (af ya),.p (.int .i64 Ad),.p (bK CN),.p (.int .i64 CM)]],[]⟩) (els Ae).length (fun _=>True)
  (fun o e H=>o= .exit 0∧H=⟨[[.p (af xa),.p (.int .i64 Ad),.p (bK Ae),.p (.int .i64 CM)],[.p (af ya),.p (.int .i64 Ad),.p (bK CN),.p (.int .i64 CM)]],[]⟩) trivial
  (fun i hi _=>by
   have bp:i<(els CN).length:=by omega
   have ia:=jf hi;have ib:=jf bp;have he:stM (els Ae)[i]=stM (els CN)[i]:=by
    have:=congrArg (fun l=>l[i]?) ni;simpa[hi,bp] using this
   have hm:=oP _ (bO hi);have c:=amc _ _ he hm.1 hm.2;have inc:=bw (k:=i) (by omega);generalize (els Ae)[i]=p at *;generalize (els CN)[i]=q at *
   conv in bd yX 0=>reduce
   simp[lx,hi,ia,ib,c,inc])
  (fun _=>by
   conv in bd yX 0=>reduce
   simp[lx])
 obtain⟨o,e,H,hx,rfl,rfl⟩:=bJ key;simp at hx;have ae:=rf (bd yX 0)
 conv at ae=>rhs;reduce
 have hf:=rf yX
 conv at hf=>rhs;reduce
 rw[←ae] at hf;refine aG (aa:=[_,_]) hf rfl rfl rfl ?_;clear hf ae;simp[lx,ly,hx,c29]
end Go.Proofs.YtgplgbonlnodeaaGreatDoor
