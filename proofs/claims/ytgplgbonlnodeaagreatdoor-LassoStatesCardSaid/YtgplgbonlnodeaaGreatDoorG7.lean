/-
  A value-level evaluator for Go functions; the functions of this cut by it; plain laws. Text G7.
-/
import Derived.Test.YtgplgbonlnodeaaGreatDoorG6
import Derived.Test.YtgplgbonlnodeaaGreatDoorG5
open Bool renaming and_eq_true->bL,false_eq_true->qp,or_eq_true->nR
open Int renaming natCast_inj->rF,natCast_one->ue,natCast_pow->Rf,natCast_zero->gH,tmod_eq_emod_of_nonneg->aab,toNat_natCast->sQ
open List renaming all_eq_true->gV,append_assoc->j2,append_eq_nil_iff->tX,append_nil->iQ,cons_append->jo,drop_eq_getElem_cons->CZ,drop_eq_nil_of_le->Rc,drop_zero->pM,eq_nil_of_length_eq_zero->sO,ext_getElem?->lO,filter_append->Rg,filter_cons->Az,filter_nil->Ra,flatMap_cons->sP,foldl_cons->tU,getD_eq_getElem?_getD->im,getElem?_append_left->aT,getElem?_append_right->cR,getElem?_eq_getElem->aD,getElem?_eq_none->nS,getElem?_eq_some_iff->af,getElem?_map->cG,getElem?_set->nU,getElem?_set_ne->bp,getElem?_set_self->eA,getElem?_take_of_lt->kX,getElem_cons_succ->yb,getElem_cons_zero->pR,getElem_mem->dw,getElem_of_mem->ya,length->oI,length_append->gG,length_cons->ew,length_eq_zero_iff->CR,length_filter_le->C3,length_map->bT,length_nil->fH,length_pos_iff->wh,length_set->Ge,length_singleton->AA,length_take->kY,map_append->oJ,map_congr_left->pN,map_cons->cB,map_map->pO,map_nil->j4,mem_append->cx,mem_cons->cq,mem_cons_of_mem->kA,mem_cons_self->rD,mem_map->cA,mem_of_getElem?->bB,mem_of_mem_take->jn,mem_or_eq_of_mem_set->K8,mem_singleton->nT,nil_append->fF,not_mem_nil->iC,pairwise_cons->pP,pairwise_iff_getElem->C1,pairwise_map->AB,range->j3,set_append_right->Rh,sum_cons->Lf,take->rE,take_add_one->ub,take_length->lQ,take_of_length_le->fK,take_succ_eq_append_getElem->C2
open List.Pairwise renaming filter->Gg,imp->Ri
open List.cons renaming injEq->xY
open Nat renaming add_assoc->wb,add_mul->fX,add_sub_cancel_left->tZ,le_refl->aK,le_trans->fW,lt_or_ge->fA,min_eq_left->x9,mul_comm->tV,mul_le_mul->ud,mul_le_mul_right->ju,sub_self->Au,zero_add->ez,zero_le->bD
open Option renaming getD_some->mq,map_some->fy
open Option.some renaming inj->nQ,injEq->bM
open Prod renaming fst->wm
open Prod.mk renaming injEq->mr
open List renaming length->O
open Option renaming some->Z,none->Y
set_option maxHeartbeats 4000000
set_option maxRecDepth 100000
open Go.Vs

section
open Go.Proofs.YtgplgbonlnodeaaGreatDoor
attribute [local simp] cH aP fY put Env.get Env.keep entry aA.ev pU yi aw cutAt yg D.uf D.lS u8 AG ye AH kD sub AJ rG PD.eqv j7 cls gY ug aV lg oL qx eR sT finish mD rJ aH D.ai D.refs D.aC D.bk cX gI aF pT fg dJ D.iR D.eZ sQ yh sS D.j6 ay IB IC Bw ID IE jT JV gives nx JR JS JT rF E4 bX below Out.ren D.ren D.aZ E6 JU JB qW JC xm JD JE JF JG JH JI JJ JK E5 JL JM JN JO JP BX JQ
namespace Go.Proofs.YtgplgbonlnodeaaGreatDoor
abbrev vB(sp:Sp)(T:Sl Bool)(calls:Nat)(ins:Bool):List D:=[.p (jU sp.so),.p (fT sp.fi),.p (jV sp.pr),.p (jW sp.fa),.p (dr T),.p (.int .i64 ((calls:Nat):Int)),.p (.bool ins)]
theorem aiS(sp:Sp)(a:Nd)(T:Sl Bool)(calls:Nat)(ps:Sl Pm)(d0:D)(k0:List Nat)(i:Nat)(hi:i<O (els ps))(ar er pos:Int)(r:Bt):
    post (λo e H=>e.get 6= .box 2 0/\((o= .exit 2/\e.get 1=d0/\e.get 3= .box 0 0/\e.get 5= .box 1 0/\e.get 8= .p (gU ps)/\e.get 9= .p (.int .i64 ((i:Nat):Int))/\H=⟨[vB sp T calls true,a.cl.map .p,[.p (.int .i64 0),.p (.int .i64 0)],(ah ar r).map .p,[.p (.int .i64 er),.p (.int .i64 pos)]],k0⟩)\/(o= .ret/\H=⟨[vB sp T calls true,a.cl.map .p,[.p (.int .i64 43),.p (.int .i64 a.pos)],(ah ar r).map .p,[.p (.int .i64 er),.p (.int .i64 pos)]],k0⟩)))
     (dB (call pg) pg.G [1,3,5,6,8,9,10,12] (bd jh 1) ⟨[(1,d0),(3,.box 0 0),(5,.box 1 0),(6,.box 2 0),(8,.p (gU ps)),(9,.p (.int .i64 ((i:Nat):Int))),(10,.box 3 0),(12,.p (.int .i64 0))],⟨[vB sp T calls true,a.cl.map .p,[.p (.int .i64 0),.p (.int .i64 0)],(ah ar r).map .p,[.p (.int .i64 er),.p (.int .i64 pos)]],k0⟩⟩):=by
 refine lI (c:=call pg) (G:=pg.G) (keep:=[1,3,5,6,8,9,10,12]) (b:=bd jh 1) (λk=>[(1,d0),(3,.box 0 0),(5,.box 1 0),(6,.box 2 0),(8,.p (gU ps)),(9,.p (.int .i64 ((i:Nat):Int))),(10,.box 3 0),(12,.p (.int .i64 ((k:Nat):Int)))]) (λ_=>⟨[vB sp T calls true,a.cl.map .p,[.p (.int .i64 0),.p (.int .i64 0)],(ah ar r).map .p,[.p (.int .i64 er),.p (.int .i64 pos)]],k0⟩) 4 (λ_=>True) _ trivial ?_ ?_
 .intro k hk _
  conv in bd jh 1=>reduce
  have h1:(k:Int)<4:=by omega
  have h2:(k:Int)<64:=by omega
  have g1:=tL (a:=ar) (b:=r) (k:=k) (by omega);have aS:=Fb hi;have k1:=bt (k:=k) (by omega);generalize (els ps)[i]=q at *;cases hb:r.g k with
  |false=>
   rw[hb] at g1;simp[-aw,-aF,jT,h1,h2,g1,k1]
  |true=>
   rw[hb] at g1;by_cases hc:(k:Int)=q.so
   .rw[<-hc] at aS;simp[-aw,-aF,jT,h1,h2,g1,aS,k1]
   .simp[-aw,-aF,eP,oB,jT,h1,h2,g1,aS,hc]
 .intro _
  conv in bd jh 1=>reduce
  simp[-aw,-aF]
theorem aiT(sp:Sp)(ok:mN sp)(a:Nd)(hs4:a.size<=400)(ih:∀k∈a.ks,vI sp 222 k (1<=k.op/\k.op<=15)):
    ∀(T:Sl Bool) (calls:Nat) (ins:Bool) (s:SF) (L:List Vr),xz 361 66 s (L.map Vr.p)->O L+a.size<=1000->
    ∃(er pos:Int),∀d H,s.at 361 66 d H->au (call pg) 285 [.p (vP sp T calls ins),d,.p (.agg a.cl)] H=Z (.val (.p (.agg [.int .i64 er,.int .i64 pos])),H):=by
 intro T calls ins s L hs hb;have hpl:O (els sp.pr)<4611686018427387904:=by have:=ok.np;omega
 obtain⟨p1,c1,d1⟩:=Km sp hpl calls a.nm;obtain⟨p2,c2,d2⟩:=Km sp hpl (O (els sp.pr)) a.nm;have fin:∀(er pos:Int),post (dm [.cell 6 (Z 2)] s.k (.p (.agg [.int .i64 er,.int .i64 pos]))) (aq (call pg) pg.G aM ((jh.map λf=>f.body).getD .skip) ⟨entry 0 ([vP sp T calls ins].map .p++s.d 361 66 0::[PD.agg a.cl].map .p),⟨[],s.k⟩⟩)->
     ∃(er pos:Int),∀d H,s.at 361 66 d H->au (call pg) 285 [.p (vP sp T calls ins),d,.p (.agg a.cl)] H=Z (.val (.p (.agg [.int .i64 er,.int .i64 pos])),H):=by
  intro er pos hr;have hb1:=rf (bd jh 1)
  conv at hb1=>rhs;reduce
  have hb0:=rf (bd jh 0)
  conv at hb0=>rhs;reduce
  rw[<-hb1] at hb0;have hf:=rf jh
  conv at hf=>rhs;reduce
  rw[<-hb1] at hf;rw[<-hb0] at hf;rw[hf] at hr;exact⟨er,pos,vD (e:=361) (sz:=66) (pre:=[vP sp T calls ins]) (suf:=[.agg a.cl]) (s:=s) (Fj _) hf (λ_=>by cases s<;>rfl) (by cases s<;>rfl) rfl hr⟩
 have qZ:O a.ks<=400:=by
  have:=B8 a.ks;have:=size_eq a;omega
 by_cases g1:p1<0
 .skip
  have hb1:=rf (bd jh 1)
  conv at hb1=>rhs;reduce
  have hb0:=rf (bd jh 0)
  conv at hb0=>rhs;reduce
  rw[<-hb1] at hb0;have hf:=rf jh
  conv at hf=>rhs;reduce
  rw[<-hb1] at hf;rw[<-hb0] at hf;have az:cy=cy:=rfl
  conv at az=>rhs;reduce
  try rw[<-az] at hf
  try rw[<-az] at hb0
  try rw[<-az] at hb1
  clear az;rw[hf] at fin;simp only[fy,mq] at fin;clear hf hb0 hb1;clear hs ih;by_cases g2:p2<0
  .refine fin 40 a.pos ?_;clear fin;cases s<;>(simp only[SF.d,SF.k] at *;simp[-aw,-aF,eP,oB,dm,c1,c2,g1,g2,kT])
  .refine fin 45 a.pos ?_;clear fin;cases s<;>(simp only[SF.d,SF.k] at *;simp[-aw,-aF,eP,oB,dm,c1,c2,g1,g2,kT])
 .obtain⟨p,rfl,hp,-⟩:=d1 (by omega);have aS:=Fc hp;have hpm:=(ok.pd _ (dw hp)).1.1;generalize (els sp.pr)[p]=q at *;by_cases g3:O a.ks=O (els q.ps)
  .have key:=lI (c:=call pg) (G:=pg.G) (keep:=[1,3,5,6,8,9]) (b:=bd jh 0) (λi=>[(1,s.d 361 66 0),(3,.box 0 0),(5,.box 1 0),(6,.box 2 0),(8,.p (gU q.ps)),(9,.p (.int .i64 ((i:Nat):Int)))]) (λ_=>⟨[vB sp T calls true,a.cl.map .p,[.p (.int .i64 0),.p (.int .i64 0)]],s.k⟩) (O (els q.ps)) (λ_=>True)
    (λo e H=>e.get 6= .box 2 0/\((o= .exit 0/\H=⟨[vB sp T calls true,a.cl.map .p,[.p (.int .i64 0),.p (.int .i64 0)]],s.k⟩)\/(o= .ret/\∃er pos:Int,H=⟨[vB sp T calls true,a.cl.map .p,[.p (.int .i64 er),.p (.int .i64 pos)]],s.k⟩))) trivial
    (λi hi _=>by
     have bJ:i<O a.ks:=by omega
     have Ps:=B7 (dw bJ);obtain⟨ar,r,er,pos,he,-⟩:=ih _ (dw bJ) T calls true s L hs (by omega);have he:=λbx=>he (s.d 361 66 0) ⟨bx,s.k⟩ (zX 361 66 s bx);have Ko:=xx bJ;have k1:=bt (k:=i) (by omega);have cU:=aiS sp a T calls q.ps (s.d 361 66 0) s.k i hi ar 0 pos r;clear hs ih c1 c2 d1 d2 aS;generalize a.ks[i]=kk at *;have hb1:=rf (bd jh 1)
     conv at hb1=>rhs;reduce
     have hb0:=rf (bd jh 0)
     conv at hb0=>rhs;reduce
     rw[<-hb1] at hb0;have hf:=rf jh
     conv at hf=>rhs;reduce
     rw[<-hb1] at hf;rw[<-hb0] at hf;have az:cy=cy:=rfl
     conv at az=>rhs;reduce
     try rw[<-az] at hf
     try rw[<-az] at hb0
     try rw[<-az] at hb1
     clear az;rw[hb0];clear hf hb0 hb1;by_cases e0:er=0
     .subst e0;by_cases e1:ar=1
      .subst e1;obtain⟨o,e,H,hx,h6,hq⟩:=bC cU;simp at hx;rcases hq with⟨rfl,q1,q3,q5,q8,q9,rfl⟩ |⟨rfl,rfl⟩
       .cases s<;>(simp only[SF.d,SF.k] at *;simp[-aw,-aF,b9,cn,eP,bY,kS,hi,Ko,he,k1,iW,hx,h6,q1,q3,q5,q8,q9])
       .refine aG (Q:=λo e H=>o= .ret/\e.get 6= .box 2 0/\H=⟨[vB sp T calls true,a.cl.map .p,[.p (.int .i64 43),.p (.int .i64 a.pos)]],s.k⟩) ?_ ?_
        .cases s<;>(simp only[SF.d,SF.k] at *;simp[-aw,-aF,b9,cn,eP,bY,kS,hi,Ko,he,iW,hx,h6])
        .rintro o e H ⟨rfl,q,rfl⟩;exact .inr ⟨by simp,q,.inr ⟨rfl,_,_,rfl⟩⟩
      .refine aG (Q:=λo e H=>o= .ret/\e.get 6= .box 2 0/\H=⟨[vB sp T calls true,a.cl.map .p,[.p (.int .i64 42),.p (.int .i64 a.pos)]],s.k⟩) ?_ ?_
       .clear cU;cases s<;>(simp only[SF.d,SF.k] at *;simp[-aw,-aF,b9,cn,eP,bY,oB,kS,hi,Ko,he,iW,e1])
       .rintro o e H ⟨rfl,q,rfl⟩;exact .inr ⟨by simp,q,.inr ⟨rfl,_,_,rfl⟩⟩
     .refine aG (Q:=λo e H=>o= .ret/\e.get 6= .box 2 0/\H=⟨[vB sp T calls true,a.cl.map .p,[.p (.int .i64 er),.p (.int .i64 pos)]],s.k⟩) ?_ ?_
      .clear cU;cases s<;>(simp only[SF.d,SF.k] at *;simp[-aw,-aF,b9,cn,eP,bY,kS,hi,Ko,he,iW,e0])
      .rintro o e H ⟨rfl,q,rfl⟩;exact .inr ⟨by simp,q,.inr ⟨rfl,_,_,rfl⟩⟩)
    (λ_=>by
     have hb1:=rf (bd jh 1)
     conv at hb1=>rhs;reduce
     have hb0:=rf (bd jh 0)
     conv at hb0=>rhs;reduce
     rw[<-hb1] at hb0;have hf:=rf jh
     conv at hf=>rhs;reduce
     rw[<-hb1] at hf;rw[<-hb0] at hf;have az:cy=cy:=rfl
     conv at az=>rhs;reduce
     try rw[<-az] at hf
     try rw[<-az] at hb0
     try rw[<-az] at hb1
     clear az;rw[hb0];clear hf hb0 hb1;clear hs ih;cases s<;>(simp only[SF.d,SF.k] at *;simp[-aw,-aF,b9,kS]))
   obtain⟨o,e,H,hx,h6,hq⟩:=bC key;simp at hx;have hb1:=rf (bd jh 1)
   conv at hb1=>rhs;reduce
   have hb0:=rf (bd jh 0)
   conv at hb0=>rhs;reduce
   rw[<-hb1] at hb0;have hf:=rf jh
   conv at hf=>rhs;reduce
   rw[<-hb1] at hf;rw[<-hb0] at hf;have az:cy=cy:=rfl
   conv at az=>rhs;reduce
   try rw[<-az] at hf
   try rw[<-az] at hb0
   try rw[<-az] at hb1
   clear az;rw[hf] at fin;simp only[fy,mq] at fin;clear hf hb0 hb1;clear hs ih key;rcases hq with⟨rfl,rfl⟩ |⟨rfl,er,pos,rfl⟩
   .refine fin 0 0 ?_;clear fin;cases s<;>(simp only[SF.d,SF.k] at *;simp[-aw,-aF,eP,tM,jG,dm,c1,kS,ko,aS,g1,g3,hx,h6])
   .refine fin er pos ?_;clear fin;cases s<;>(simp only[SF.d,SF.k] at *;simp[-aw,-aF,tM,dm,c1,kS,ko,aS,g1,g3,hx,h6])
  .skip
   have hb1:=rf (bd jh 1)
   conv at hb1=>rhs;reduce
   have hb0:=rf (bd jh 0)
   conv at hb0=>rhs;reduce
   rw[<-hb1] at hb0;have hf:=rf jh
   conv at hf=>rhs;reduce
   rw[<-hb1] at hf;rw[<-hb0] at hf;have az:cy=cy:=rfl
   conv at az=>rhs;reduce
   try rw[<-az] at hf
   try rw[<-az] at hb0
   try rw[<-az] at hb1
   clear az;rw[hf] at fin;simp only[fy,mq] at fin;clear hf hb0 hb1;clear hs ih;refine fin 45 a.pos ?_;clear fin;cases s<;>(simp only[SF.d,SF.k] at *;simp[-aw,-aF,eP,oB,dm,c1,kS,ko,aS,g1,g3])
theorem Fx:O z66=66:=by simp[z66]
theorem aiU:∀x∈z66,x.one=true:=by
 intro x hx;simp only[z66,cq] at hx;rcases hx with rfl |rfl |hx
 .rfl
 .rfl
 .obtain⟨y,-,rfl⟩:=cA.1 hx;rfl
theorem Fy:(∀x∈z66,x.one=true)=True:=eq_true aiU
theorem aiV(v:Vr):∀x∈ku v,x.one=true:=by
 intro x hx;simp only[ku,cq] at hx;rcases hx with rfl |hx
 .rfl
 .exact Pl _ _ x hx
theorem Fz(v:Vr):(∀x∈ku v,x.one=true)=True:=eq_true (aiV v)
theorem FA(nm:List UInt8)(b:Bt):aF (z66.map D.p) [(0,1,.p (.str nm)),(1,65,.p (.agg (ah 1 b)))]=Z ((ku ⟨nm,b⟩).map D.p):=by
 have h:z66= .str []::ah 0 Bt.e:=rfl;rw[h];simp only[aF,cB];have h2:(D.p (PD.agg (ah 1 b))).cells=(ah 1 b).map D.p:=by simp[D.cells]
 have h1:(D.p (PD.str nm)).cells=[D.p (PD.str nm)]:=rfl;have h3:O ((ah 1 b).map D.p)=65:=by simp
 have h4:((ah 1 b).map D.p).all D.one=true:=ahL 1 b;have h5:(PD.str nm).one=true:=rfl;simp[h1,h2,h5,aw,ku,E4,bY,Rc]
variable{H:Hp}{rest:List (List D)}{es:List PD}{w:List UInt8}{sz by' m base:Nat}{G:Nat->Option (List PD)}{Q:Out->Env->Hp->Prop}{x:PD}{a b:SC}{st:St}{α:Type}
theorem zY{e:Nat}:dJ sz (.cC e sz es)=Z es:=by simp[dJ,D.iR]
theorem Cn{t e:Nat}:dJ sz (.aX t e sz es)=Z es:=by simp[dJ,D.iR]
theorem XO{n:Nat}(h:n<=1001):roomy n 88=true:=by
 have :n*88<=1001*88:=ju _ h;simp only[roomy,bL,decide_eq_true_eq];omega
theorem aiW(sp:Sp)(a k0 k1:Nd)(qZ:a.ks=[k0,k1]){r0 r1:Prop}(XP:vI sp 222 k0 r0)(XQ:vI sp 222 k1 r1):vI sp 286 a True:=by
 intro T calls ins s L hs hb;have hsz:a.size=1+(k0.size+(k1.size+0)):=by rw[size_eq,qZ];rfl
 have i0:=xx (a:=a) (k:=0) (by rw[qZ];simp);have i1:=xx (a:=a) (k:=1) (by rw[qZ];simp);simp only[qZ,pR,yb,gH,ue] at i0 i1;obtain⟨xD,iG⟩:∃xD,xD=if a.op=15 then true else ins:=⟨_,rfl⟩
 obtain⟨ar,b,er,pos,kQ,-⟩:=XP T calls xD s L hs (by omega);have kQ:=λbx=>kQ (s.d 361 66 0) ⟨bx,s.k⟩ (zX 361 66 s bx);obtain⟨ar1,b1,er1,aiY,uB,-⟩:=XQ T calls xD (.tk ((L++[Vr.mk a.nm b]).map Vr.p)) (L++[Vr.mk a.nm b]) Xp (by simp;omega);simp only[oJ,cB,j4] at uB;have hp:Vr.p ⟨a.nm,b⟩= .agg (ku ⟨a.nm,b⟩):=rfl;rw[hp] at uB;have hl:O (L.map Vr.p)<=1000:=by simp;omega
 have q0:=λbx=>uB (.aX 0 361 66 (L.map Vr.p++[.agg (ku ⟨a.nm,b⟩)])) ⟨bx,[O (L.map Vr.p)+1]⟩ ⟨0,rfl,by simp⟩;have q1:=λbx=>uB (.aX 1 361 66 (L.map Vr.p++[.agg (ku ⟨a.nm,b⟩)])) ⟨bx,[O (L.map Vr.p),O (L.map Vr.p)+1]⟩ ⟨1,rfl,by simp⟩;have rh:=hs.src 0;have v1:=XO (n:=O (L.map Vr.p)) (by omega);have v2:=XO (n:=O (L.map Vr.p)+1) (by omega);clear uB hs hb XP XQ;generalize L.map Vr.p=M at *;have fin:∀(ar:Int) (r:Bt) (er pos:Int),(er=0->1<=ar/\ar<=3)->post (dm [.cell 6 (Z 65),.cell 7 (Z 2)] s.k (.ba [.p (gF ar r),.p (.agg [.int .i64 er,.int .i64 pos])])) (aq (call pg) pg.G aM ((Jf.map λf=>f.body).getD .skip) ⟨entry 0 ([vP sp T calls ins].map .p++s.d 361 66 0::[PD.agg a.cl].map .p),⟨[],s.k⟩⟩)->
     ∃(ar:Int) (r:Bt) (er pos:Int),(∀d H,s.at 361 66 d H->au (call pg) 286 [.p (vP sp T calls ins),d,.p (.agg a.cl)] H=Z (.val (.ba [.p (gF ar r),.p (.agg [.int .i64 er,.int .i64 pos])]),H))/\(er=0->True->1<=ar/\ar<=3):=by
  intro ar r er pos h1 hr;have hf:=rf Jf
  conv at hf=>rhs;reduce
  rw[hf] at hr;exact⟨ar,r,er,pos,vD (e:=361) (sz:=66) (pre:=[vP sp T calls ins]) (suf:=[.agg a.cl]) (s:=s) (Ke [_,_]) hf (λ_=>by cases s<;>rfl) (by cases s<;>rfl) rfl hr,λh _=>h1 h⟩
 have hf:=rf Jf
 conv at hf=>rhs;reduce
 have mi:z66=z66:=rfl
 conv at mi=>rhs;reduce
 try rw[<-mi] at hf
 clear mi;have az:cy=cy:=rfl
 conv at az=>rhs;reduce
 try rw[<-az] at hf
 clear az;rw[hf] at fin;simp only[fy,mq] at fin;clear hf;by_cases e0:er=0
 .by_cases e1:ar=1
  .subst e0 e1;refine fin 1 b er1 aiY (λ_=>by omega) ?_;clear fin;by_cases iO:a.op=15
   .rw[if_pos iO] at iG;subst iG;cases s with
    |pl x=>simp only[SF.d,SF.k] at *;simp[-dJ,-aw,-aF,b9,dC,cn,eP,tM,cP,bY,dm,iO,kQ,i0,i1,rh,v1,v2,q0,iW,Fx,Fy,Fz,FA,zY]
    |tk es=>
     have hM:es=M:=by simpa[SF.d,Cn] using rh
     subst hM;simp only[SF.d,SF.k] at *;simp[-dJ,-aw,-aF,b9,dC,cn,eP,tM,cP,bY,dm,iO,kQ,i0,i1,rh,v1,v2,q1,iW,Fx,Fy,Fz,FA,zY]
   .rw[if_neg iO] at iG;subst iG;cases s with
    |pl x=>simp only[SF.d,SF.k] at *;simp[-dJ,-aw,-aF,b9,dC,cn,eP,cP,bY,dm,iO,kQ,i0,i1,rh,v1,v2,q0,iW,Fx,Fy,Fz,FA,zY]
    |tk es=>
     have hM:es=M:=by simpa[SF.d,Cn] using rh
     subst hM;simp only[SF.d,SF.k] at *;simp[-dJ,-aw,-aF,b9,dC,cn,eP,cP,bY,dm,iO,kQ,i0,i1,rh,v1,v2,q1,iW,Fx,Fy,Fz,FA,zY]
  .subst e0;refine fin 0 Bt.e 42 a.pos (λh=>by omega) ?_;clear fin;by_cases iO:a.op=15
   .rw[if_pos iO] at iG;subst iG;cases s with
    |pl x=>simp only[SF.d,SF.k] at *;simp[-dJ,-aw,-aF,b9,dC,cn,eP,tM,cP,bY,jG,oB,dm,iO,kQ,i0,e1]
    |tk es=>
     have hM:es=M:=by simpa[SF.d,Cn] using rh
     subst hM;simp only[SF.d,SF.k] at *;simp[-dJ,-aw,-aF,b9,dC,cn,eP,tM,cP,bY,jG,oB,dm,iO,kQ,i0,iW,e1]
   .rw[if_neg iO] at iG;subst iG;cases s with
    |pl x=>simp only[SF.d,SF.k] at *;simp[-dJ,-aw,-aF,b9,dC,cn,eP,cP,bY,jG,oB,dm,iO,kQ,i0,e1]
    |tk es=>
     have hM:es=M:=by simpa[SF.d,Cn] using rh
     subst hM;simp only[SF.d,SF.k] at *;simp[-dJ,-aw,-aF,b9,dC,cn,eP,cP,bY,jG,oB,dm,iO,kQ,i0,iW,e1]
 .refine fin 0 Bt.e er pos (λh=>absurd h e0) ?_;clear fin;by_cases iO:a.op=15
  .rw[if_pos iO] at iG;subst iG;cases s with
   |pl x=>simp only[SF.d,SF.k] at *;simp[-dJ,-aw,-aF,b9,dC,cn,eP,tM,cP,bY,jG,dm,iO,kQ,i0,e0]
   |tk es=>
    have hM:es=M:=by simpa[SF.d,Cn] using rh
    subst hM;simp only[SF.d,SF.k] at *;simp[-dJ,-aw,-aF,b9,dC,cn,eP,tM,cP,bY,jG,dm,iO,kQ,i0,iW,e0]
  .rw[if_neg iO] at iG;subst iG;cases s with
   |pl x=>simp only[SF.d,SF.k] at *;simp[-dJ,-aw,-aF,b9,dC,cn,eP,cP,bY,jG,dm,iO,kQ,i0,e0]
   |tk es=>
    have hM:es=M:=by simpa[SF.d,Cn] using rh
    subst hM;simp only[SF.d,SF.k] at *;simp[-dJ,-aw,-aF,b9,dC,cn,eP,cP,bY,jG,dm,iO,kQ,i0,iW,e0]
def PR:Nat->SC->SC
 | 0,x=>x
 |n+1,.seq _ b=>PR n b
 |_+1,x=>x
def sqL:SC->SC
 | .seq a _=>a
 |x=>x

noncomputable def pt (x:Option FC) (n:Nat):SC:=sqL (PR n ((x.map λf=>f.body).getD .skip))
noncomputable def Co (x:Option FC) (n:Nat):SC:=PR n ((x.map λf=>f.body).getD .skip)
theorem ai0(T:Sl Bool):PO (.pl (dr T)) (els T):=by
 refine⟨λ_=>by simp only[SF.d,Ce,bT],λ_ k h=>?_,λ_=>?_⟩
 .have h':k<O (els T):=by simpa using h
  simp only[SF.d,PB h',List.getElem_map,BX]
 .cases T with
  |of l=>cases l<;>simp[SF.d,dr,eh,Sl.map,dJ,D.iR,els]
  |_=>simp[SF.d,dr,eh,Sl.map,dJ,D.iR,els]
theorem ai1(sp:Sp)(ok:mN sp)(T:Sl Bool)(calls:Nat)(ins:Bool)(a:Nd)(d0:D)(k0:List Nat):∃z:Bool,
    (z=true->post (λo e H=>o= .ret/\e.get 6= .box 2 0/\e.get 7= .box 3 0/\H=⟨[vB sp T calls ins,a.cl.map .p,(ah 0 Bt.e).map .p,[.p (.int .i64 46),.p (.int .i64 a.pos)]],k0⟩)
     (aq (call pg) pg.G aM (pt a222 1) ⟨[(1,d0),(3,.box 0 0),(5,.box 1 0),(6,.box 2 0),(7,.box 3 0)],⟨[vB sp T calls ins,a.cl.map .p,(ah 0 Bt.e).map .p,[.p (.int .i64 0),.p (.int .i64 0)]],k0⟩⟩))/\
    (z=false->aq (call pg) pg.G aM (pt a222 1) ⟨[(1,d0),(3,.box 0 0),(5,.box 1 0),(6,.box 2 0),(7,.box 3 0)],⟨[vB sp T calls ins,a.cl.map .p,(ah 0 Bt.e).map .p,[.p (.int .i64 0),.p (.int .i64 0)]],k0⟩⟩=
     Z (.norm,⟨[(1,d0),(3,.box 0 0),(5,.box 1 0),(6,.box 2 0),(7,.box 3 0),(36,.p (.bool false))],⟨[vB sp T calls ins,a.cl.map .p,(ah 0 Bt.e).map .p,[.p (.int .i64 0),.p (.int .i64 0)]],k0⟩⟩)):=by
 obtain⟨b1,c1⟩:=XJ a.op;have hpl:O (els sp.pr)<4611686018427387904:=by have:=ok.np;omega
 obtain⟨b2,c2⟩:=XK sp hpl (ai0 T) calls a.nm;have c2:=λH=>c2 _ H rfl;have eo:pt a222 1=pt a222 1:=rfl
 conv at eo=>rhs;reduce
 have az:cy=cy:=rfl
 conv at az=>rhs;reduce
 rw[<-az] at eo;clear az;rw[eo];clear eo;cases ins with
 |false=>
  refine⟨false,λh=>(by cases h),λ_=>?_⟩;simp[-aw,-aF,b9]
 |true=>
  cases b1 with
  |true=>
   refine⟨true,λ_=>?_,λh=>(by cases h)⟩;simp[-aw,-aF,b9,cn,eP,cP,bY,jG,oB,c1]
  |false=>
   by_cases mQ:a.op=47
   .rw[mQ] at c1;cases b2 with
    |true=>
     refine⟨true,λ_=>?_,λh=>(by cases h)⟩;simp[-aw,-aF,b9,cn,eP,cP,bY,jG,oB,mQ,c1,c2]
    |false=>
     refine⟨false,λh=>(by cases h),λ_=>?_⟩;simp[-aw,-aF,b9,mQ,c1,c2]
   .refine⟨false,λh=>(by cases h),λ_=>?_⟩;simp[-aw,-aF,b9,mQ,c1]
abbrev Kp(d0:D):Env:=[(1,d0),(3,.box 0 0),(5,.box 1 0),(6,.box 2 0),(7,.box 3 0),(36,.p (.bool false))]
theorem ai2(sp:Sp)(T:Sl Bool)(calls:Nat)(ins:Bool)(a:Nd)(d0:D)(k0:List Nat)(hop:a.op=1)(ar:Int)(r:Bt)(er pos:Int)
    (h:∀bx,au (call pg) 284 [.p (vP sp T calls ins),d0,.p (.agg a.cl)] ⟨bx,k0⟩=Z (.val (.ba [.p (gF ar r),.p (.agg [.int .i64 er,.int .i64 pos])]),⟨bx,k0⟩)):
    post (λo e H=>o= .ret/\e.get 6= .box 2 0/\e.get 7= .box 3 0/\H=⟨[vB sp T calls ins,a.cl.map .p,(ah ar r).map .p,[.p (.int .i64 er),.p (.int .i64 pos)]],k0⟩)
     (aq (call pg) pg.G aM (pt a222 2) ⟨Kp d0,⟨[vB sp T calls ins,a.cl.map .p,(ah 0 Bt.e).map .p,[.p (.int .i64 0),.p (.int .i64 0)]],k0⟩⟩):=by
 have eo:pt a222 2=pt a222 2:=rfl
 conv at eo=>rhs;reduce
 rw[eo];clear eo;simp only[Nd.cl,hop] at h;simp[-aw,-aF,cn,eP,bY,hop,h]
theorem ai3(sp:Sp)(T:Sl Bool)(calls:Nat)(ins:Bool)(a:Nd)(d0:D)(k0:List Nat)(hop:a.op=47)(er pos:Int)
    (h:∀bx,au (call pg) 285 [.p (vP sp T calls ins),d0,.p (.agg a.cl)] ⟨bx,k0⟩=Z (.val (.p (.agg [.int .i64 er,.int .i64 pos])),⟨bx,k0⟩)):
    post (λo e H=>o= .ret/\e.get 6= .box 2 0/\e.get 7= .box 3 0/\H=⟨[vB sp T calls ins,a.cl.map .p,(ah 0 Bt.e).map .p,[.p (.int .i64 er),.p (.int .i64 pos)]],k0⟩)
     (aq (call pg) pg.G aM (pt a222 2) ⟨Kp d0,⟨[vB sp T calls ins,a.cl.map .p,(ah 0 Bt.e).map .p,[.p (.int .i64 0),.p (.int .i64 0)]],k0⟩⟩):=by
 have eo:pt a222 2=pt a222 2:=rfl
 conv at eo=>rhs;reduce
 have az:cy=cy:=rfl
 conv at az=>rhs;reduce
 rw[<-az] at eo;clear az;rw[eo];clear eo;simp only[Nd.cl,hop] at h;simp[-aw,-aF,b9,cn,eP,cP,bY,jG,hop,h]
theorem ai4(sp:Sp)(T:Sl Bool)(calls:Nat)(ins:Bool)(a:Nd)(d0:D)(k0:List Nat)(hop:a.op∈[15,45,46])(ar:Int)(r:Bt)(er pos:Int)
    (h:∀bx,au (call pg) 286 [.p (vP sp T calls ins),d0,.p (.agg a.cl)] ⟨bx,k0⟩=Z (.val (.ba [.p (gF ar r),.p (.agg [.int .i64 er,.int .i64 pos])]),⟨bx,k0⟩)):
    post (λo e H=>o= .ret/\e.get 6= .box 2 0/\e.get 7= .box 3 0/\H=⟨[vB sp T calls ins,a.cl.map .p,(ah ar r).map .p,[.p (.int .i64 er),.p (.int .i64 pos)]],k0⟩)
     (aq (call pg) pg.G aM (pt a222 2) ⟨Kp d0,⟨[vB sp T calls ins,a.cl.map .p,(ah 0 Bt.e).map .p,[.p (.int .i64 0),.p (.int .i64 0)]],k0⟩⟩):=by
 have eo:pt a222 2=pt a222 2:=rfl
 conv at eo=>rhs;reduce
 have az:cy=cy:=rfl
 conv at az=>rhs;reduce
 try rw[<-az] at eo
 clear az;rw[eo];clear eo;simp at hop;rcases hop with hop |hop |hop<;>simp only[Nd.cl,hop] at h<;>simp[-aw,-aF,b9,cn,eP,bY,hop,h]
theorem ai5(sp:Sp)(T:Sl Bool)(calls:Nat)(ins:Bool)(a:Nd)(d0:D)(k0:List Nat)(hop:a.op∉[1,47,15,45,46]):∃xD:Bool,
    post (λo e H=>o= .norm/\e.get 1=d0/\e.get 3= .box 0 0/\e.get 5= .box 1 0/\e.get 6= .box 2 0/\e.get 7= .box 3 0/\H=⟨[vB sp T calls xD,a.cl.map .p,(ah 0 Bt.e).map .p,[.p (.int .i64 0),.p (.int .i64 0)]],k0⟩)
     (aq (call pg) pg.G aM (pt a222 2) ⟨Kp d0,⟨[vB sp T calls ins,a.cl.map .p,(ah 0 Bt.e).map .p,[.p (.int .i64 0),.p (.int .i64 0)]],k0⟩⟩):=by
 have eo:pt a222 2=pt a222 2:=rfl
 conv at eo=>rhs;reduce
 have az:cy=cy:=rfl
 conv at az=>rhs;reduce
 try rw[<-az] at eo
 clear az;rw[eo];clear eo;simp only[cq,iC,or_false,not_or] at hop;obtain⟨h1,mQ,iO,h45,h46⟩:=hop;by_cases Fv:a.op=12
 .refine⟨true,?_⟩;simp[-aw,-aF,b9,tM,Fv]
 .by_cases Fw:a.op=13
  .refine⟨true,?_⟩;simp[-aw,-aF,b9,tM,Fw]
  .refine⟨ins,?_⟩;simp[-aw,-aF,b9,h1,mQ,iO,h45,h46,Fv,Fw]
theorem ai8(e sz:Nat)(s:SF)(bx:List (List D))(l:List Nat):s.at e sz (s.d e sz 0) ⟨bx,s.k++l⟩:=by
 cases s with
 |pl x=>rfl
 |tk es=>exact⟨0,rfl,rfl⟩
theorem ai9{e:Nat}{bx:List (List D)}(h:O es<1000000000)(hb:by'<=1000):fg e sz by' (.aX 1 e sz es) [x] ⟨bx,[m,O es]⟩=Z (.aX 1 e sz (es++[x]),⟨bx,[m,O es+1]⟩):=by
 have hr:roomy (O es+1) by'=true:=by
  have :(O es+1)*by'<=1000000000*1000:=ud (by omega) hb;simp only[roomy,bL,decide_eq_true_eq];omega
 simp[fg,hr]
def Kq(ks:List Nd)(Ls:List eH):Prop:=∀(i:Nat) (k:Nd) (l:eH),ks[i]? =Z k->Ls[i]? =Z l->1<=k.op->k.op<=15->1<=l.ar/\l.ar<=3
theorem aja(sp:Sp)(a:Nd)(ha:a.size<=400)(ih:∀k∈a.ks,vI sp 222 k (1<=k.op/\k.op<=15))(T:Sl Bool)(calls:Nat)(ins:Bool)(s:SF)(L:List Vr)(hs:xz 361 66 s (L.map Vr.p))(hb:O L+a.size<=1000):
    post (λo e H=>e.get 6= .box 2 0/\e.get 7= .box 3 0/\((o= .exit 1/\e.get 3= .box 0 0/\e.get 5= .box 1 0/\∃Ls:List eH,O Ls=O a.ks/\Kq a.ks Ls/\e.get 8= .aX (O s.k) 253 65 (Ls.map eH.p)/\H=⟨[vB sp T calls ins,a.cl.map .p,(ah 0 Bt.e).map .p,[.p (.int .i64 0),.p (.int .i64 0)]],s.k++[O (Ls.map eH.p)]⟩)\/
        (o= .ret/\∃(er pos:Int) (n:Nat),er≠0/\H=⟨[vB sp T calls ins,a.cl.map .p,(ah 0 Bt.e).map .p,[.p (.int .i64 er),.p (.int .i64 pos)]],s.k++[n]⟩)))
     (dB (call pg) pg.G [1,3,5,6,7,8,9] (bd a222 0) ⟨[(1,s.d 361 66 0),(3,.box 0 0),(5,.box 1 0),(6,.box 2 0),(7,.box 3 0),(8,.aX (O s.k) 253 65 []),(9,.p (.int .i64 0))],⟨[vB sp T calls ins,a.cl.map .p,(ah 0 Bt.e).map .p,[.p (.int .i64 0),.p (.int .i64 0)]],s.k++[0]⟩⟩):=by
 have qZ:O a.ks<=400:=by
  have:=B8 a.ks;have:=size_eq a;omega
 refine dT (c:=call pg) (G:=pg.G) (keep:=[1,3,5,6,7,8,9]) (b:=bd a222 0) (σ:=Nat×List eH) (λx=>[(1,s.d 361 66 0),(3,.box 0 0),(5,.box 1 0),(6,.box 2 0),(7,.box 3 0),(8,.aX (O s.k) 253 65 (x.2.map eH.p)),(9,.p (.int .i64 ((x.1:Nat):Int)))])
  (λx=>⟨[vB sp T calls ins,a.cl.map .p,(ah 0 Bt.e).map .p,[.p (.int .i64 0),.p (.int .i64 0)]],s.k++[O (x.2.map eH.p)]⟩) (λx=>O a.ks-x.1) (λx=>x.1<=O a.ks/\O x.2=x.1/\Kq a.ks x.2) _ ?_ (0,[]) ⟨bD _,rfl,λi k l _ h=>by simp at h⟩
 rintro⟨i,Ls⟩ ⟨hi,hL,hK⟩;dsimp only at hi hL hK|-;by_cases h:i<O a.ks
 .have Ps:=B7 (dw h);obtain⟨ar,r,er,pos,he,hrel⟩:=ih _ (dw h) T calls ins s L hs (by omega);have he:=λbx l=>he (s.d 361 66 0) ⟨bx,s.k++l⟩ (ai8 361 66 s bx l);have aS:=xx h;have k1:=bt (k:=i) (by omega);have XR:O (Ls.map eH.p)<1000000000:=by rw[bT];omega
  by_cases e0:er=0
  .subst e0;have hx:Kq a.ks (Ls++[⟨ar,r⟩]):=by
    intro j k l hk hl g1 g2;by_cases hj:j<O Ls
    .rw[aT hj] at hl;exact hK j k l hk hl g1 g2
    .rw[cR (by omega)] at hl;have oT:j=i:=by
      have:=(af.1 hl).1;simp at this;omega
     subst oT;rw[hL,Au] at hl;simp at hl;subst hl;rw[aD h] at hk;cases hk;exact hrel rfl ⟨g1,g2⟩
   refine aG (Q:=nx [1,3,5,6,7,8,9] [(1,s.d 361 66 0),(3,.box 0 0),(5,.box 1 0),(6,.box 2 0),(7,.box 3 0),(8,.aX (O s.k) 253 65 (Ls.map eH.p++[.agg (ah ar r)])),(9,.p (.int .i64 ((i+1 :Nat):Int)))] ⟨[vB sp T calls ins,a.cl.map .p,(ah 0 Bt.e).map .p,[.p (.int .i64 0),.p (.int .i64 0)]],s.k++[O (Ls.map eH.p)+1]⟩) ?_ ?_
   .have p0:=λbx=>PQ (e:=253) (sz:=65) (by':=72) (es:=Ls.map eH.p) (x:=.agg (ah ar r)) (bx:=bx) XR (by omega);have p1:=λbx m=>ai9 (e:=253) (sz:=65) (by':=72) (m:=m) (es:=Ls.map eH.p) (x:=.agg (ah ar r)) (bx:=bx) XR (by omega);have hb0:=rf (bd a222 0)
    conv at hb0=>rhs;reduce
    have hf:=rf a222
    conv at hf=>rhs;reduce
    rw[<-hb0] at hf;have az:cy=cy:=rfl
    conv at az=>rhs;reduce
    try rw[<-az] at hf
    try rw[<-az] at hb0
    clear az;rw[hb0];clear hf hb0;clear hs hb ih hL hK hx hrel;generalize Ls.map eH.p=M at *;generalize a.ks[i]=kk at *;cases s<;>(simp only[SF.d,SF.k,fF,jo] at *;simp[-dJ,-fg,-aw,-aF,b9,dC,cn,eP,cP,bY,ko,h,aS,he,k1,iW,zY,p0,p1])
   .intro o e H hh;refine .inl ⟨(i+1,Ls++[⟨ar,r⟩]),⟨by dsimp only;omega,by simp[hL],hx⟩,by dsimp only;omega,?_⟩;simpa[eH.p] using hh
  .refine aG (Q:=λo e H=>o= .ret/\e.get 6= .box 2 0/\e.get 7= .box 3 0/\H=⟨[vB sp T calls ins,a.cl.map .p,(ah 0 Bt.e).map .p,[.p (.int .i64 er),.p (.int .i64 pos)]],s.k++[O (Ls.map eH.p)]⟩) ?_ ?_
   .skip
    have hb0:=rf (bd a222 0)
    conv at hb0=>rhs;reduce
    have hf:=rf a222
    conv at hf=>rhs;reduce
    rw[<-hb0] at hf;have az:cy=cy:=rfl
    conv at az=>rhs;reduce
    try rw[<-az] at hf
    try rw[<-az] at hb0
    clear az;rw[hb0];clear hf hb0;clear hs hb ih hL hK hrel;generalize Ls.map eH.p=M at *;generalize a.ks[i]=kk at *;cases s<;>(simp only[SF.d,SF.k,fF,jo] at *;simp[-dJ,-fg,-aw,-aF,b9,cn,eP,cP,bY,jG,ko,h,aS,he,iW,e0])
   .rintro o e H ⟨rfl,q6,q7,rfl⟩;exact .inr ⟨by simp,q6,q7,.inr ⟨rfl,er,pos,_,e0,rfl⟩⟩
 .have hi':i=O a.ks:=by omega
  subst hi';refine aG (Q:=λo e H=>o= .exit 1/\e.get 3= .box 0 0/\e.get 5= .box 1 0/\e.get 6= .box 2 0/\e.get 7= .box 3 0/\e.get 8= .aX (O s.k) 253 65 (Ls.map eH.p)/\H=⟨[vB sp T calls ins,a.cl.map .p,(ah 0 Bt.e).map .p,[.p (.int .i64 0),.p (.int .i64 0)]],s.k++[O (Ls.map eH.p)]⟩) ?_ ?_
  .skip
   have hb0:=rf (bd a222 0)
   conv at hb0=>rhs;reduce
   have hf:=rf a222
   conv at hf=>rhs;reduce
   rw[<-hb0] at hf;have az:cy=cy:=rfl
   conv at az=>rhs;reduce
   try rw[<-az] at hf
   try rw[<-az] at hb0
   clear az;rw[hb0];clear hf hb0;clear hs hb ih hL hK;generalize Ls.map eH.p=M at *;cases s<;>(simp only[SF.d,SF.k,fF,jo] at *;simp[-aw,-aF,b9,ko])
  .rintro o e H ⟨rfl,q3,q5,q6,q7,q8,rfl⟩;exact .inr ⟨by simp,q6,q7,.inl ⟨rfl,q3,q5,Ls,hL,hK,q8,rfl⟩⟩
theorem ajb{op:Int}{n:Nat}(h:op∈[5,11,12,13])(hs:xv op n w):w=[101]:=by
 simp at h;rcases h with rfl |rfl |rfl |rfl<;>simpa[xv] using hs
theorem ajc{op:Int}{n:Nat}(h:op∈[6,7,8,9,10,14,32,33])(hs:xv op n w):w=[101,101]:=by
 simp at h;rcases h with rfl |rfl |rfl |rfl |rfl |rfl |rfl |rfl<;>simpa[xv] using hs
theorem ajd{op:Int}{n:Nat}(h:op∈[15,45,46])(hs:xv op n w):w=[101,102]:=by
 simp at h;rcases h with rfl |rfl |rfl<;>simpa[xv] using hs
theorem aje{a:Nd}(hw:Wf a){Ls:List eH}(hl:O Ls=O a.ks)(hk:Kq a.ks Ls)(h1:a.op≠1)(iO:a.op≠15):Sets a.op a.n Ls:=by
 obtain⟨_,own,⟨w,hs,FB,uH⟩,_⟩:=hw;have bd:∀i (h:i<O Ls),w[i]? =Z 101->1<=Ls[i].ar/\Ls[i].ar<=3:=λi h hw=>by
  have h':i<O a.ks:=by omega
  have:=(uH i h' _ _ (aD h') hw).1 rfl;exact hk i _ _ (aD h') (aD h) this.1 this.2
 refine⟨own,λh=>?_,λh=>?_,h1,iO⟩
 .have:=ajb h hs;subst this
  match Ls,hl,bd with
  |[],hl,_=>simp at FB hl;omega
  |a::l,_,bd=>exact⟨a,l,rfl,bd 0 (by simp) rfl⟩
 .have:=ajc h hs;subst this
  match Ls,hl,bd with
  |[],hl,_=>simp at FB hl;omega
  |[_],hl,_=>simp at FB hl;omega
  |a::c::l,_,bd=>exact⟨a,c,l,rfl,bd 0 (by simp) rfl,bd 1 (by simp) rfl⟩
theorem ajf(sp:Sp)(ok:mN sp)(a:Nd)(hw:Wf a)(ha:a.size<=400)(h1:a.op≠1)(iO:a.op≠15)(ih:∀k∈a.ks,vI sp 222 k (1<=k.op/\k.op<=15))(T:Sl Bool)(calls:Nat)(ins:Bool)(s:SF)(L:List Vr)(hs:xz 361 66 s (L.map Vr.p))(hb:O L+a.size<=1000)(e0:Env)
    (q1:e0.get 1=s.d 361 66 0) (q3:e0.get 3= .box 0 0) (q5:e0.get 5= .box 1 0) (q6:e0.get 6= .box 2 0) (q7:e0.get 7= .box 3 0):
    ∃(ar:Int) (r:Bt) (er pos:Int),(er=0->1<=a.op->a.op<=15->1<=ar/\ar<=3)/\post (λo e H=>o= .ret/\e.get 6= .box 2 0/\e.get 7= .box 3 0/\∃x y z n,H=⟨x::y::(ah ar r).map .p::[.p (.int .i64 er),.p (.int .i64 pos)]::z,s.k++[n]⟩)
     (aq (call pg) pg.G aM (Co a222 3) ⟨e0,⟨[vB sp T calls ins,a.cl.map .p,(ah 0 Bt.e).map .p,[.p (.int .i64 0),.p (.int .i64 0)]],s.k⟩⟩):=by
 have key:=aja sp a ha ih T calls ins s L hs hb;obtain⟨o,e,H,hx,h6,h7,hq⟩:=bC key;clear key;have xE:=ok.ns;have hb0:=rf (bd a222 0)
 conv at hb0=>rhs;reduce
 have hf:=rf a222
 conv at hf=>rhs;reduce
 rw[<-hb0] at hf;clear hf;have eo:Co a222 3=Co a222 3:=rfl
 conv at eo=>rhs;reduce
 rw[<-hb0] at eo;clear hb0;have az:cy=cy:=rfl
 conv at az=>rhs;reduce
 rw[<-az] at eo;clear az;rcases hq with⟨rfl,IM,XS,Ls,hl,hk,q8,rfl⟩ |⟨rfl,er,pos,n,he,rfl⟩
 .obtain⟨ar,r,okk,hap,hrel⟩:=aiM sp (by omega) a.op a.n a.pos a.nm a.oC (Xl a) Ls (aje hw hl hk h1 iO);have hap:=λbx=>hap (.aX (O s.k) 253 65 (Ls.map eH.p)) ⟨bx,s.k++[O (Ls.map eH.p)]⟩ ⟨O s.k,rfl,by simp⟩;cases okk with
  |true=>
   refine⟨ar,r,0,0,λ_=>hrel rfl,?_⟩;rw[eo];clear eo ih hs hb hw hl hk hrel;generalize Ls.map eH.p=M at *;refine aG (Q:=λo e H=>o= .ret/\e.get 6= .box 2 0/\e.get 7= .box 3 0/\H=⟨[vB sp T calls ins,a.cl.map .p,(ah ar r).map .p,[.p (.int .i64 0),.p (.int .i64 0)],(ah ar r).map .p],s.k++[O M]⟩) ?_ λo e H h=>⟨h.1,h.2.1,h.2.2.1,_,_,_,_,h.2.2.2⟩;cases s<;>(simp only[SF.d,SF.k,fF,jo,fH,ew] at *;simp at hx;simp[-aw,-aF,b9,dC,cn,eP,cP,bY,jG,pV,q1,q3,q5,q6,q7,hx,h6,h7,IM,XS,q8,hap])
  |false=>
   refine⟨0,Bt.e,42,a.pos,λh=>by omega,?_⟩;rw[eo];clear eo ih hs hb hw hl hk hrel;generalize Ls.map eH.p=M at *;refine aG (Q:=λo e H=>o= .ret/\e.get 6= .box 2 0/\e.get 7= .box 3 0/\H=⟨[vB sp T calls ins,a.cl.map .p,(ah 0 Bt.e).map .p,[.p (.int .i64 42),.p (.int .i64 a.pos)],(ah ar r).map .p],s.k++[O M]⟩) ?_ λo e H h=>⟨h.1,h.2.1,h.2.2.1,_,_,_,_,h.2.2.2⟩;cases s<;>(simp only[SF.d,SF.k,fF,jo,fH,ew] at *;simp at hx;simp[-aw,-aF,b9,cn,eP,cP,bY,jG,oB,pV,q1,q3,q5,q6,q7,hx,h6,h7,IM,XS,q8,hap])
 .refine⟨0,Bt.e,er,pos,λh=>absurd h he,?_⟩;rw[eo];clear eo ih hs hb hw;refine aG (Q:=λo e H=>o= .ret/\e.get 6= .box 2 0/\e.get 7= .box 3 0/\H=⟨[vB sp T calls ins,a.cl.map .p,(ah 0 Bt.e).map .p,[.p (.int .i64 er),.p (.int .i64 pos)]],s.k++[n]⟩) ?_ λo e H h=>⟨h.1,h.2.1,h.2.2.1,_,_,_,_,h.2.2.2⟩;cases s<;>(simp only[SF.d,SF.k,fF,jo,fH,ew] at *;simp at hx;simp[-aw,-aF,b9,pV,q1,q3,q5,q6,q7,hx,h6,h7])
theorem FD(sp:Sp)(T:Sl Bool)(calls:Nat)(ins:Bool)(a:Nd)(s:SF)(ar:Int)(r:Bt)(er pos:Int)
    (h:post (λo e H=>o= .ret/\e.get 6= .box 2 0/\e.get 7= .box 3 0/\∃x y z l,H=⟨x::y::(ah ar r).map .p::[.p (.int .i64 er),.p (.int .i64 pos)]::z,s.k++l⟩)
     (aq (call pg) pg.G aM (.seq (pt a222 1) (.seq (pt a222 2) (Co a222 3))) ⟨[(1,s.d 361 66 0),(3,.box 0 0),(5,.box 1 0),(6,.box 2 0),(7,.box 3 0)],⟨[vB sp T calls ins,a.cl.map .p,(ah 0 Bt.e).map .p,[.p (.int .i64 0),.p (.int .i64 0)]],s.k⟩⟩)):
    ∀d H,s.at 361 66 d H->au (call pg) 222 [.p (vP sp T calls ins),d,.p (.agg a.cl)] H=Z (.val (.ba [.p (gF ar r),.p (.agg [.int .i64 er,.int .i64 pos])]),H):=by
 obtain⟨o,e,H,hx,rfl,h6,h7,x,y,z,l,rfl⟩:=bC h;clear h;have hb0:=rf (bd a222 0)
 conv at hb0=>rhs;reduce
 have hf:=rf a222
 conv at hf=>rhs;reduce
 rw[<-hb0] at hf;have tr:Co a222 3=Co a222 3:=rfl
 conv at tr=>rhs;reduce
 rw[<-hb0] at tr;rw[<-tr] at hf;have yQ:pt a222 2=pt a222 2:=rfl
 conv at yQ=>rhs;reduce
 rw[<-yQ] at hf;have eo:pt a222 1=pt a222 1:=rfl
 conv at eo=>rhs;reduce
 rw[<-eo] at hf;have az:cy=cy:=rfl
 conv at az=>rhs;reduce
 rw[<-az] at hf;clear az eo yQ tr hb0;refine vD (e:=361) (sz:=66) (pre:=[vP sp T calls ins]) (suf:=[.agg a.cl]) (s:=s) (Ke [_,_]) hf (λ_=>by cases s<;>rfl) (by cases s<;>rfl) rfl ?_;clear hf;cases s<;>(simp only[SF.d,SF.k,fF,jo] at *;simp at hx;simp[-aw,-aF,b9,dC,cP,bY,dm,hx,h6,h7])
theorem FE{c:br}{e:Env}(h:aq c G aM a st=Z (.norm,⟨e,H⟩))(hb:post Q (aq c G aM b ⟨e,H⟩)):post Q (aq c G aM (.seq a b) st):=by
 rw[Uu,h];exact hb
theorem Kr{c:br}(h:post (λo e H=>o= .ret/\Q o e H) (aq c G aM a st)):post Q (aq c G aM (.seq a b) st):=by
 obtain⟨o,e,H,hx,rfl,hq⟩:=bC h;rw[Uu,hx];exact hq
theorem ajh(sp:Sp)(ok:mN sp)(hn:pC sp):∀(m:Nat) (a:Nd),a.size<=m->m<=400->Wf a->vI sp 222 a (1<=a.op/\a.op<=15):=by
 intro m
 induction m with
 |zero=>intro a h;have:=size_pos a;omega
 |succ m ih=>
  intro a hm arL hw T calls ins s L hs hb;have Ks:∀k∈a.ks,vI sp 222 k (1<=k.op/\k.op<=15):=λk hk=>by
   have h1:=B7 hk;have hwk:Wf k:=by obtain⟨_,_,_,h⟩:=hw;exact h k hk
   exact ih k (by omega) (by omega) hwk
  obtain⟨z,g1,g2⟩:=ai1 sp ok T calls ins a (s.d 361 66 0) s.k;cases z with
  |true=>
   refine⟨0,Bt.e,46,a.pos,FD sp T calls ins a s 0 Bt.e 46 a.pos (Kr (aG (g1 rfl) ?_)),λh=>by omega⟩;rintro o e H ⟨rfl,q6,q7,rfl⟩;exact⟨rfl,rfl,q6,q7,_,_,[],[],by rw[iQ]⟩
  |false=>
   have g2:=g2 rfl;by_cases h1:a.op=1
   .obtain⟨ar,r,er,pos,he,hrel⟩:=aiR sp ok hn a T calls ins s L hs hb;refine⟨ar,r,er,pos,FD sp T calls ins a s ar r er pos (FE g2 (Kr (aG (ai2 sp T calls ins a (s.d 361 66 0) s.k h1 ar r er pos λbx=>he _ _ (zX 361 66 s bx)) ?_))),λh _=>hrel h trivial⟩;rintro o e H ⟨rfl,q6,q7,rfl⟩;exact⟨rfl,rfl,q6,q7,_,_,[],[],by rw[iQ]⟩
   .by_cases mQ:a.op=47
    .obtain⟨er,pos,he⟩:=aiT sp ok a (by omega) Ks T calls ins s L hs hb;refine⟨0,Bt.e,er,pos,FD sp T calls ins a s 0 Bt.e er pos (FE g2 (Kr (aG (ai3 sp T calls ins a (s.d 361 66 0) s.k mQ er pos λbx=>he _ _ (zX 361 66 s bx)) ?_))),λ_ h=>by omega⟩;rintro o e H ⟨rfl,q6,q7,rfl⟩;exact⟨rfl,rfl,q6,q7,_,_,[],[],by rw[iQ]⟩
    .by_cases o0:a.op∈[15,45,46]
     .obtain⟨_,_,⟨w,hsw,FB,_⟩,_⟩:=id hw;have:=ajd o0 hsw;subst this;obtain⟨k0,k1,qZ⟩:∃k0 k1,a.ks=[k0,k1]:=by
       match hk:a.ks,FB with
       |[k0,k1],_=>exact⟨k0,k1,rfl⟩
      obtain⟨ar,r,er,pos,he,hrel⟩:=aiW sp a k0 k1 qZ (Ks k0 (by rw[qZ];simp)) (Ks k1 (by rw[qZ];simp)) T calls ins s L hs hb;refine⟨ar,r,er,pos,FD sp T calls ins a s ar r er pos (FE g2 (Kr (aG (ai4 sp T calls ins a (s.d 361 66 0) s.k o0 ar r er pos λbx=>he _ _ (zX 361 66 s bx)) ?_))),λh _=>hrel h trivial⟩;rintro o e H ⟨rfl,q6,q7,rfl⟩;exact⟨rfl,rfl,q6,q7,_,_,[],[],by rw[iQ]⟩
     .have hno:a.op∉[1,47,15,45,46]:=by
       simp only[cq,iC,or_false,not_or] at o0|-;exact⟨h1,mQ,o0⟩
      obtain⟨xD,hp⟩:=ai5 sp T calls ins a (s.d 361 66 0) s.k hno;obtain⟨o,e,H,hx,rfl,q1,q3,q5,q6,q7,rfl⟩:=bC hp;obtain⟨ar,r,er,pos,hrel,ht⟩:=ajf sp ok a hw (by omega) h1 (λh=>o0 (by simp[h])) Ks T calls xD s L hs hb e q1 q3 q5 q6 q7;refine⟨ar,r,er,pos,FD sp T calls ins a s ar r er pos (FE g2 (FE hx (aG ht ?_))),λh h2=>hrel h h2.1 h2.2⟩;rintro o e H ⟨rfl,q6,q7,x,y,z,n,rfl⟩;exact⟨rfl,q6,q7,_,_,_,[n],rfl⟩
theorem ajj(a:Nd):∃r:Bool,∀H,au (call pg) 221 [.p (.agg a.cl)] H=Z (.val (.p (.bool r)),H):=by
 have hf:=rf Vp
 conv at hf=>rhs;reduce
 refine⟨decide (30<=a.op),aR (aa:=[_]) hf rfl rfl rfl ?_⟩;clear hf;simp
theorem ajk(ps:Sl Pm)(hp:O (els ps)<=500):∃L:List Vr,O L=O (els ps)/\∀H,au (call pg) 224 [.p (gU ps)] H=Z (.val (.p (.slice 66 (L.map Vr.p))),H):=by
 have key:=dT (c:=call pg) (G:=pg.G) (keep:=[0,3,4]) (b:=bd xh 0) (σ:=Nat×List Vr) (λs=>[(0,.p (gU ps)),(3,.aX 0 361 66 (s.2.map Vr.p)),(4,.p (.int .i64 ((s.1:Nat):Int)))]) (λs=>⟨[],[O (s.2.map Vr.p)]⟩) (λs=>O (els ps)-s.1) (λs=>s.1<=O (els ps)/\O s.2=s.1)
  (λo e H=>o= .exit 0/\∃L:List Vr,O L=O (els ps)/\e.get 3= .aX 0 361 66 (L.map Vr.p))
  (by
   rintro⟨i,L⟩ ⟨hi,hL⟩;dsimp only at hi hL|-;by_cases h:i<O (els ps)
   .have aS:=Fb h;generalize (els ps)[i]=q at *;obtain⟨b,hb⟩:=B6 (Pn q.so) (by omega);simp only[ue] at hb;have k1:=bt (k:=i) (by omega);have hap:=λbx=>PQ (e:=361) (sz:=66) (by':=88) (es:=L.map Vr.p) (x:=.agg (ku ⟨q.nm,b⟩)) (bx:=bx) (by rw[bT];omega) (by omega);refine aG (Q:=nx [0,3,4] [(0,.p (gU ps)),(3,.aX 0 361 66 (L.map Vr.p++[.agg (ku ⟨q.nm,b⟩)])),(4,.p (.int .i64 ((i+1 :Nat):Int)))] ⟨[],[O (L.map Vr.p)+1]⟩) ?_ ?_
    .generalize L.map Vr.p=M at *;have hb0:=rf (bd xh 0)
     conv at hb0=>rhs;reduce
     have hf:=rf xh
     conv at hf=>rhs;reduce
     rw[<-hb0] at hf;have mi:z66=z66:=rfl
     conv at mi=>rhs;reduce
     try rw[<-mi] at hf
     try rw[<-mi] at hb0
     clear mi;have az:cy=cy:=rfl
     conv at az=>rhs;reduce
     try rw[<-az] at hf
     try rw[<-az] at hb0
     clear az;rw[hb0];clear hf hb0;simp[-fg,-dJ,-aw,-aF,cP,kS,h,aS,hb,hap,k1,Fx,Fy,Fz,FA,zY,pT]
    .intro o e H hh;refine .inl ⟨(i+1,L++[⟨q.nm,b⟩]),⟨by dsimp only;omega,by simp[hL]⟩,by dsimp only;omega,?_⟩;simpa[Vr.p] using hh
   .have :i=O (els ps):=by omega
    subst this;refine aG (Q:=λo e H=>o= .exit 0/\e.get 3= .aX 0 361 66 (L.map Vr.p)) ?_ ?_
    .generalize L.map Vr.p=M at *;have hb0:=rf (bd xh 0)
     conv at hb0=>rhs;reduce
     have hf:=rf xh
     conv at hf=>rhs;reduce
     rw[<-hb0] at hf;have mi:z66=z66:=rfl
     conv at mi=>rhs;reduce
     try rw[<-mi] at hf
     try rw[<-mi] at hb0
     clear mi;have az:cy=cy:=rfl
     conv at az=>rhs;reduce
     try rw[<-az] at hf
     try rw[<-az] at hb0
     clear az;rw[hb0];clear hf hb0;simp[-aw,-aF,kS]
    .rintro o e H ⟨rfl,q⟩;exact .inr ⟨by simp,rfl,L,hL,q⟩) (0,[]) ⟨bD _,rfl⟩
 obtain⟨o,e,H,hx,rfl,L,hL,h3⟩:=bC key;simp only[gH,j4,fH] at hx;clear key;refine⟨L,hL,?_⟩;generalize L.map Vr.p=M at *;have hb0:=rf (bd xh 0)
 conv at hb0=>rhs;reduce
 have hf:=rf xh
 conv at hf=>rhs;reduce
 rw[<-hb0] at hf;have mi:z66=z66:=rfl
 conv at mi=>rhs;reduce
 try rw[<-mi] at hf
 try rw[<-mi] at hb0
 clear mi;have az:cy=cy:=rfl
 conv at az=>rhs;reduce
 try rw[<-az] at hf
 try rw[<-az] at hb0
 clear az;refine aR (aa:=[_]) hf rfl rfl rfl ?_;clear hf hb0;simp[pV,hx,h3]
theorem ajl(sp:Sp)(T:Sl Bool)(calls:Nat):aF [.p .aj,.p .aj,.p .aj,.p .aj,.p .aj,.p (.int .i64 0),.p (.bool false)] [(0,4,.p (.agg [jU sp.so,fT sp.fi,jV sp.pr,jW sp.fa])),(4,1,.p (dr T)),(5,1,.p (.int .i64 ((calls:Nat):Int)))]=Z (vB sp T calls false):=by
 simp
theorem ajm{e:Nat}:xz e sz (.pl (.slice sz es)) es:=⟨λ_=>by simp only[SF.d,Bw],λ_ k h=>aeU h,λ_=>by simp[SF.d,dJ,D.iR]⟩
theorem XT(sp:Sp)(ok:mN sp)(hn:pC sp)(calls:Nat)(ps:Sl Pm)(jM:O (els ps)<=500)(a:Nd)(hb:tN a):
    ∃er pos:Int,∀H,au (call pg) 153 [.p (.agg sp.cl),.p (.int .i64 ((calls:Nat):Int)),.p (gU ps),.p (.agg a.cl)] H=Z (.val (.p (.agg [.int .i64 er,.int .i64 pos])),H):=by
 obtain⟨r,h1⟩:=ajj a;obtain⟨T,h2⟩:=aiL sp ok;obtain⟨L,hL,h3⟩:=ajk ps jM;obtain⟨ar,b,er,pos,h4,-⟩:=ajh sp ok hn 400 a hb.1 (by omega) hb.2 (Kn T) calls false (.pl (.slice 66 (L.map Vr.p))) L ajm (by have:=hb.1;omega);have h4:=λbx tk=>h4 _ ⟨bx,tk⟩ rfl;generalize Kn T=T at *;generalize L.map Vr.p=M at *;have hf:=rf Vo
 conv at hf=>rhs;reduce
 have az:cy=cy:=rfl
 conv at az=>rhs;reduce
 try rw[<-az] at hf
 clear az;cases r with
 |false=>
  refine⟨43,a.pos,aR (aa:=[_,_,_,_]) hf rfl rfl rfl ?_⟩;clear hf;simp[-aw,-aF,b9,eP,oB,h1]
 |true=>
  refine⟨er,pos,aR (aa:=[_,_,_,_]) hf rfl rfl rfl ?_⟩;clear hf;simp[-aw,-aF,b9,cn,eP,bY,h1,h2,h3,h4,ajl]
theorem ajn(sp:Sp)(ok:mN sp)(hn:pC sp)(ps:Sl Pm)(jM:O (els ps)<=500)(a:Nd)(hb:tN a):
    ∃er pos:Int,∀H,au (call pg) 99 [.p (.agg sp.cl),.p (gU ps),.p (.agg a.cl)] H=Z (.val (.p (.agg [.int .i64 er,.int .i64 pos])),H):=by
 obtain⟨er,pos,h1⟩:=XT sp ok hn (O (els sp.pr)) ps jM a hb;have hf:=rf Vl
 conv at hf=>rhs;reduce
 refine⟨er,pos,aR (aa:=[_,_,_]) hf rfl rfl rfl ?_⟩;clear hf;simp[-aw,-aF,eP,kT,h1]
theorem ajo(x y:Sl Int)(hx:O (els x)<4611686018427387904):∃r:Bool,∀H,au (call pg) 151 [.p (ax x),.p (ax y)] H=Z (.val (.p (.bool r)),H):=by
 have hb0:=rf (bd Jb 0)
 conv at hb0=>rhs;reduce
 have hf:=rf Jb
 conv at hf=>rhs;reduce
 rw[<-hb0] at hf;by_cases h0:O (els x)=O (els y)
 .have key:=mL (c:=call pg) (G:=pg.G) (keep:=[0,1,5]) (b:=bd Jb 0) (λi=>[(0,.p (ax x)),(1,.p (ax y)),(5,.p (.int .i64 ((i:Nat):Int)))]) ⟨[],[]⟩ (O (els x)) (λ_=>True) 0 (λ_=>True) (λe=>e.get 4= .p (.bool false))
   (λi hi=>by
    have bJ:i<O (els y):=by omega
    have ha:=eK hi;have hb:=eK bJ;have k1:=bt (k:=i) (by omega);generalize (els x)[i]=u at *;generalize (els y)[i]=v at *;rw[hb0];clear hf hb0;by_cases hc:u=v
    .subst hc;simp[bG,hi,ha,hb,k1]
    .simp[bG,hi,ha,hb,hc])
   (by
    rw[hb0];clear hf hb0;simp[bG])
  rcases key with⟨e,hx,-,-⟩ |⟨e,hx,h4⟩
  .simp at hx;refine⟨true,aR (aa:=[_,_]) hf rfl rfl rfl ?_⟩;clear hf hb0;simp[bG,h0,hx]
   try simp[<-h0,hx]
  .simp at hx;refine⟨false,aR (aa:=[_,_]) hf rfl rfl rfl ?_⟩;clear hf hb0;simp[bG,h0,hx,h4]
   try simp[<-h0,hx,h4]
 .refine⟨false,aR (aa:=[_,_]) hf rfl rfl rfl ?_⟩;clear hf hb0;have h1:¬(O (els x):Int)=(O (els y):Int):=by omega
  simp[bG,h1]
def Rw(c n:Nat)(d:D)(rest:List (List D)):Prop:=
 O rest<=n+c/\(∀cs∈rest,∃ys:List PD,cs=ys.map D.p)/\((d= .p .aj/\n=0)\/∃(i:Nat) (ys:List PD),d= .ae (i+1) 168 n 2/\rest[i]? =Z (ys.map D.p)/\O ys=n*2/\0<n)
theorem Kt{c n:Nat}{d:D}(h:Rw c n d rest)(hn:n<1000)(b0:List D)(k:List Nat)(x y:PD):
    ∃d' rest',dx 168 2 16 d 1 [.p x,.p y] ⟨b0::rest,k⟩=Z (d',⟨b0::rest',k⟩)/\Rw c (n+1) d' rest':=by
 have hr1:roomy 1 16=true:=by decide
 have hr:roomy (n+1) 16=true:=by
  simp only[roomy,bL,decide_eq_true_eq];omega
 obtain⟨hlen,hpl,h⟩:=h;rcases h with⟨rfl,rfl⟩ |⟨i,ys,rfl,hi,hy,jb⟩
 .refine⟨.ae (O rest+1) 168 1 2,rest++[[.p x,.p y]],?_,by simp;omega,λcs hcs=>?_,.inr ⟨O rest,[x,y],rfl,by simp,rfl,by omega⟩⟩
  .simp[dx,iT,hr1]
  .rcases cx.1 hcs with h |h
   .exact hpl cs h
   .exact⟨[x,y],by simpa using h⟩
 .have cW:i<O rest:=(af.1 hi).1;refine⟨.ae (O rest+1) 168 (n+1) 2,rest.set i []++[(ys++[x,y]).map D.p],?_,by simp;omega,λcs hcs=>?_,.inr ⟨O rest,ys++[x,y],rfl,?_,by simp[hy];omega,by omega⟩⟩
  .have h1:(b0::rest)[i+1]? =Z (ys.map D.p):=by simpa using hi
   have h2:¬(n+1)*2<=n*2:=by omega
   have h3:ys≠[]:=λe=>by rw[e] at hy;simp at hy;omega
   have h4:rE (n*2) (ys.map D.p)=ys.map D.p:=fK (by simp[hy]);have h5:rE (n*2) ys=ys:=fK (by simp[hy]);simp[dx,hi,hy,h2,h3,hr,h4]
  .rcases cx.1 hcs with h |h
   .rcases K8 h with h |rfl
    .exact hpl cs h
    .exact⟨[],rfl⟩
   .exact⟨ys++[x,y],by simpa using h⟩
  .simp
theorem ajp(sp:Sp)(i:Nat)(hi:i<O (els sp.so))(hs:O (els sp.so)<4611686018427387904)(d:D)(rest:List (List D)):
    post (λo e H=>o= .exit 2/\H=⟨sp.cl.map .p::rest,[]⟩/\e.get 1= .box 0 0/\e.get 3=d/\e.get 4= .p (.int .i64 ((i:Nat):Int))/\∃b:Bool,e.get 5= .p (.bool b))
     (dB (call pg) pg.G [1,3,4,5,6] (bd gK 1) ⟨[(1,.box 0 0),(3,d),(4,.p (.int .i64 ((i:Nat):Int))),(5,.p (.bool false)),(6,.p (.int .i64 0))],⟨sp.cl.map .p::rest,[]⟩⟩):=by
 refine dT (c:=call pg) (G:=pg.G) (keep:=[1,3,4,5,6]) (b:=bd gK 1) (σ:=Nat×Bool) (λs=>[(1,.box 0 0),(3,d),(4,.p (.int .i64 ((i:Nat):Int))),(5,.p (.bool s.2)),(6,.p (.int .i64 ((s.1:Nat):Int)))]) (λ_=>⟨sp.cl.map .p::rest,[]⟩) (λs=>i-s.1) (λs=>s.1<=i) _ ?_ (0,false) (bD _);rintro⟨j,b⟩ hj;dsimp only at hj|-;by_cases h:j<i
 .have ha:=Pt (s:=sp.so) hi;have hb:=Pt (s:=sp.so) (k:=j) (by omega);have k1:=bt (k:=j) (by omega);generalize (els sp.so)[i]=u at *;generalize (els sp.so)[j]'(by omega)=v at *;obtain⟨b',hb'⟩:∃b':Bool,b'=(b||decide (v.nm=u.nm)):=⟨_,rfl⟩;refine aG (Q:=nx [1,3,4,5,6] [(1,.box 0 0),(3,d),(4,.p (.int .i64 ((i:Nat):Int))),(5,.p (.bool b')),(6,.p (.int .i64 ((j+1 :Nat):Int)))] ⟨sp.cl.map .p::rest,[]⟩) ?_ λo e H hh=>.inl ⟨(j+1,b'),by dsimp only;omega,by dsimp only;omega,hh⟩;subst hb'
  conv in bd gK 1=>reduce
  cases b with
  |true=>simp[h,k1]
  |false=>
   by_cases hc:v.nm=u.nm
   .simp[h,ha,hb,k1,hc]
   .simp[h,ha,hb,k1,hc]
 .have :j=i:=by omega
  subst this;refine aG (Q:=λo e H=>o= .exit 2/\H=⟨sp.cl.map .p::rest,[]⟩/\e.get 1= .box 0 0/\e.get 3=d/\e.get 4= .p (.int .i64 ((j:Nat):Int))/\e.get 5= .p (.bool b)) ?_ ?_
  .skip
   conv in bd gK 1=>reduce
   simp
  .rintro o e H ⟨rfl,q1,q2,q3,q4,q5⟩;exact .inr ⟨by simp,rfl,q1,q2,q3,q4,b,q5⟩
theorem FH{e:Nat}:gX H sz (.cC e sz es)=Z (O es,(es.flatMap PD.cells).map .p):=by simp[gX,dJ,D.iR]
theorem ajq(sp:Sp)(ok:∀f∈els sp.fi,sB (O (els sp.so)) (els f.so))(i:Nat)(hi:i<O (els sp.fi))(hs:O (els sp.fi)<4611686018427387904)(d:D)(rest:List (List D)):
    post (λo e H=>o= .exit 6/\H=⟨sp.cl.map .p::rest,[]⟩/\e.get 1= .box 0 0/\e.get 3=d/\e.get 7= .p (.int .i64 ((i:Nat):Int))/\∃b:Bool,e.get 8= .p (.bool b))
     (dB (call pg) pg.G [1,3,7,8,9] (bd gK 3) ⟨[(1,.box 0 0),(3,d),(7,.p (.int .i64 ((i:Nat):Int))),(8,.p (.bool false)),(9,.p (.int .i64 0))],⟨sp.cl.map .p::rest,[]⟩⟩):=by
 refine dT (c:=call pg) (G:=pg.G) (keep:=[1,3,7,8,9]) (b:=bd gK 3) (σ:=Nat×Bool) (λs=>[(1,.box 0 0),(3,d),(7,.p (.int .i64 ((i:Nat):Int))),(8,.p (.bool s.2)),(9,.p (.int .i64 ((s.1:Nat):Int)))]) (λ_=>⟨sp.cl.map .p::rest,[]⟩) (λs=>i-s.1) (λs=>s.1<=i) _ ?_ (0,false) (bD _);rintro⟨j,b⟩ hj;dsimp only at hj|-;by_cases h:j<i
 .have ha:=py (s:=sp.fi) hi;have hb:=py (s:=sp.fi) (k:=j) (by omega);have k1:=bt (k:=j) (by omega);have hf3:=(ok _ (dw (h:=(by omega:j<O (els sp.fi))))).2.2;obtain⟨r,hr⟩:=ajo ((els sp.fi)[j]'(by omega)).so (els sp.fi)[i].so (by omega);clear hf3;generalize (els sp.fi)[i]=u at *;generalize (els sp.fi)[j]'(by omega)=v at *;obtain⟨b',hb'⟩:∃b':Bool,b'=(b||(decide (v.nm=u.nm)&&r)):=⟨_,rfl⟩;refine aG (Q:=nx [1,3,7,8,9] [(1,.box 0 0),(3,d),(7,.p (.int .i64 ((i:Nat):Int))),(8,.p (.bool b')),(9,.p (.int .i64 ((j+1 :Nat):Int)))] ⟨sp.cl.map .p::rest,[]⟩) ?_ λo e H hh=>.inl ⟨(j+1,b'),by dsimp only;omega,by dsimp only;omega,hh⟩;subst hb'
  conv in bd gK 3=>reduce
  cases b with
  |true=>simp[h,k1]
  |false=>
   by_cases hc:v.nm=u.nm
   .simp[h,ha,hb,k1,hc,hr]
   .simp[h,ha,hb,k1,hc]
 .have :j=i:=by omega
  subst this;refine aG (Q:=λo e H=>o= .exit 6/\H=⟨sp.cl.map .p::rest,[]⟩/\e.get 1= .box 0 0/\e.get 3=d/\e.get 7= .p (.int .i64 ((j:Nat):Int))/\e.get 8= .p (.bool b)) ?_ ?_
  .skip
   conv in bd gK 3=>reduce
   simp
  .rintro o e H ⟨rfl,q1,q2,q3,q4,q5⟩;exact .inr ⟨by simp,rfl,q1,q2,q3,q4,b,q5⟩
theorem ajr(sp:Sp)(hs:O (els sp.so)<=4):
    post (λo e H=>o= .exit 0/\e.get 1= .box 0 0/\∃(n:Nat) (d:D) (rest:List (List D)),e.get 3=d/\H=⟨sp.cl.map .p::rest,[]⟩/\Rw 0 n d rest/\n<=4)
     (dB (call pg) pg.G [1,3,4] (bd gK 0) ⟨[(1,.box 0 0),(3,.p .aj),(4,.p (.int .i64 0))],⟨[sp.cl.map .p],[]⟩⟩):=by
 refine dT (c:=call pg) (G:=pg.G) (keep:=[1,3,4]) (b:=bd gK 0) (σ:=Nat×Nat×D×List (List D)) (λs=>[(1,.box 0 0),(3,s.2.2.1),(4,.p (.int .i64 ((s.1:Nat):Int)))]) (λs=>⟨sp.cl.map .p::s.2.2.2,[]⟩) (λs=>O (els sp.so)-s.1) (λs=>s.1<=O (els sp.so)/\s.2.1<=s.1/\Rw 0 s.2.1 s.2.2.1 s.2.2.2) _ ?_ (0,0,.p .aj,[]) ⟨bD _,aK _,aK _,λ_ h=>by simp at h,.inl ⟨rfl,rfl⟩⟩;rintro⟨i,n,d,rest⟩ ⟨hi,hn,hR⟩;dsimp only at hi hn hR|-;by_cases h:i<O (els sp.so)
 .obtain⟨o,e,H,hx,rfl,rfl,q1,q3,q4,b,q5⟩:=bC (ajp sp i h (by omega) d rest);have k1:=bt (k:=i) (by omega);simp at hx;cases b with
  |false=>
   refine aG (Q:=nx [1,3,4] [(1,.box 0 0),(3,d),(4,.p (.int .i64 ((i+1 :Nat):Int)))] ⟨sp.cl.map .p::rest,[]⟩) ?_ λo e H hh=>.inl ⟨(i+1,n,d,rest),⟨by dsimp only;omega,by dsimp only;omega,hR⟩,by dsimp only;omega,hh⟩;have hb1:=rf (bd gK 1)
   conv at hb1=>rhs;reduce
   have hb0:=rf (bd gK 0)
   conv at hb0=>rhs;reduce
   rw[<-hb1] at hb0;rw[hb0];clear hb0 hb1;simp[iM,h,hx,q1,q3,q4,q5,k1]
  |true=>
   obtain⟨d',rest',hap,ie⟩:=Kt hR (by omega) (sp.cl.map .p) [] (.int .i64 41) (.int .i64 0);refine aG (Q:=nx [1,3,4] [(1,.box 0 0),(3,d'),(4,.p (.int .i64 ((i+1 :Nat):Int)))] ⟨sp.cl.map .p::rest',[]⟩) ?_ λo e H hh=>.inl ⟨(i+1,n+1,d',rest'),⟨by dsimp only;omega,by dsimp only;omega,ie⟩,by dsimp only;omega,hh⟩;simp at hap;clear hR ie;have hb1:=rf (bd gK 1)
   conv at hb1=>rhs;reduce
   have hb0:=rf (bd gK 0)
   conv at hb0=>rhs;reduce
   rw[<-hb1] at hb0;rw[hb0];clear hb0 hb1;simp[iM,h,hx,q1,q3,q4,q5,k1,FH,hap]
 .have :i=O (els sp.so):=by omega
  subst this;refine aG (Q:=λo e H=>o= .exit 0/\e.get 1= .box 0 0/\e.get 3=d/\H=⟨sp.cl.map .p::rest,[]⟩) ?_ ?_
  .have hb1:=rf (bd gK 1)
   conv at hb1=>rhs;reduce
   have hb0:=rf (bd gK 0)
   conv at hb0=>rhs;reduce
   rw[<-hb1] at hb0;rw[hb0];clear hb0 hb1;simp[iM]
  .rintro o e H ⟨rfl,q1,q3,rfl⟩;exact .inr ⟨by simp,rfl,q1,n,d,rest,q3,rfl,hR,by omega⟩
theorem ajs(sp:Sp)(ok:∀f∈els sp.fi,sB (O (els sp.so)) (els f.so))(hs:O (els sp.fi)<=6)(n0:Nat)(jb:n0<=4)(d0:D)(qg:List (List D))(iy:Rw 0 n0 d0 qg):
    post (λo e H=>o= .exit 4/\e.get 1= .box 0 0/\∃(n:Nat) (d:D) (rest:List (List D)),e.get 3=d/\H=⟨sp.cl.map .p::rest,[]⟩/\Rw 0 n d rest/\n<=10)
     (dB (call pg) pg.G [1,3,7] (bd gK 2) ⟨[(1,.box 0 0),(3,d0),(7,.p (.int .i64 0))],⟨sp.cl.map .p::qg,[]⟩⟩):=by
 refine dT (c:=call pg) (G:=pg.G) (keep:=[1,3,7]) (b:=bd gK 2) (σ:=Nat×Nat×D×List (List D)) (λs=>[(1,.box 0 0),(3,s.2.2.1),(7,.p (.int .i64 ((s.1:Nat):Int)))]) (λs=>⟨sp.cl.map .p::s.2.2.2,[]⟩) (λs=>O (els sp.fi)-s.1) (λs=>s.1<=O (els sp.fi)/\s.2.1<=4+s.1/\Rw 0 s.2.1 s.2.2.1 s.2.2.2) _ ?_ (0,n0,d0,qg) ⟨bD _,by dsimp only;omega,iy⟩;rintro⟨i,n,d,rest⟩ ⟨hi,hn,hR⟩;dsimp only at hi hn hR|-;clear iy;by_cases h:i<O (els sp.fi)
 .obtain⟨o,e,H,hx,rfl,rfl,q1,q3,q4,b,q5⟩:=bC (ajq sp ok i h (by omega) d rest);have k1:=bt (k:=i) (by omega);simp at hx;cases b with
  |false=>
   refine aG (Q:=nx [1,3,7] [(1,.box 0 0),(3,d),(7,.p (.int .i64 ((i+1 :Nat):Int)))] ⟨sp.cl.map .p::rest,[]⟩) ?_ λo e H hh=>.inl ⟨(i+1,n,d,rest),⟨by dsimp only;omega,by dsimp only;omega,hR⟩,by dsimp only;omega,hh⟩;have hb3:=rf (bd gK 3)
   conv at hb3=>rhs;reduce
   have hb2:=rf (bd gK 2)
   conv at hb2=>rhs;reduce
   rw[<-hb3] at hb2;rw[hb2];clear hb2 hb3;simp[il,h,hx,q1,q3,q4,q5,k1]
  |true=>
   obtain⟨d',rest',hap,ie⟩:=Kt hR (by omega) (sp.cl.map .p) [] (.int .i64 41) (.int .i64 0);refine aG (Q:=nx [1,3,7] [(1,.box 0 0),(3,d'),(7,.p (.int .i64 ((i+1 :Nat):Int)))] ⟨sp.cl.map .p::rest',[]⟩) ?_ λo e H hh=>.inl ⟨(i+1,n+1,d',rest'),⟨by dsimp only;omega,by dsimp only;omega,ie⟩,by dsimp only;omega,hh⟩;simp at hap;clear hR ie;have hb3:=rf (bd gK 3)
   conv at hb3=>rhs;reduce
   have hb2:=rf (bd gK 2)
   conv at hb2=>rhs;reduce
   rw[<-hb3] at hb2;rw[hb2];clear hb2 hb3;simp[il,h,hx,q1,q3,q4,q5,k1,FH,hap]
 .have :i=O (els sp.fi):=by omega
  subst this;refine aG (Q:=λo e H=>o= .exit 4/\e.get 1= .box 0 0/\e.get 3=d/\H=⟨sp.cl.map .p::rest,[]⟩) ?_ ?_
  .have hb3:=rf (bd gK 3)
   conv at hb3=>rhs;reduce
   have hb2:=rf (bd gK 2)
   conv at hb2=>rhs;reduce
   rw[<-hb3] at hb2;rw[hb2];clear hb2 hb3;simp[il]
  .rintro o e H ⟨rfl,q1,q3,rfl⟩;exact .inr ⟨by simp,rfl,q1,n,d,rest,q3,rfl,hR,by omega⟩
theorem ajt{f g:Nat->Option Nat}:∀ys:List PD,D.aZ f g (ys.map D.p)=Z (ys.map D.p):=qO f g
theorem XU{f g:Nat->Option Nat}:∀rest:List (List D),(∀cs∈rest,∃ys:List PD,cs=ys.map D.p)->aH (D.aZ f g) rest=Z rest
 |[],_=>rfl
 |cs::r,h=>by
  obtain⟨ys,rfl⟩:=h cs rD;simp only[aH,ajt,XU r λc hc=>h c (kA _ hc)];rfl
theorem aju(sp:Sp)(ok:mN sp)(b0:List D):∃(n:Nat) (d:D) (rest:List (List D)),Rw 1 n d rest/\n<=10/\au (call pg) 97 [.p (.agg sp.cl)] ⟨[b0],[]⟩=Z (.val d,⟨b0::rest,[]⟩):=by
 obtain⟨o1,e1,H1,hx1,rfl,q1,n1,d1,sG,q3,rfl,vJ,ke⟩:=bC (ajr sp ok.ns);obtain⟨o2,e2,H2,hx2,rfl,p1,n,d,rest,p3,rfl,hR,hn⟩:=bC (ajs sp ok.fd ok.nf n1 ke d1 sG vJ);clear vJ;have hrun:call pg 97 [.p (.agg sp.cl)] ⟨[],[]⟩=Z (.val d,⟨sp.cl.map .p::rest,[]⟩):=by
  simp at hx1 hx2;have hb3:=rf (bd gK 3)
  conv at hb3=>rhs;reduce
  have hb2:=rf (bd gK 2)
  conv at hb2=>rhs;reduce
  rw[<-hb3] at hb2;have hb1:=rf (bd gK 1)
  conv at hb1=>rhs;reduce
  have hb0:=rf (bd gK 0)
  conv at hb0=>rhs;reduce
  rw[<-hb1] at hb0;have hf:=rf gK
  conv at hf=>rhs;reduce
  rw[<-hb3] at hf;rw[<-hb2] at hf;rw[<-hb1] at hf;rw[<-hb0] at hf;refine Gy rfl hf rfl rfl ?_;clear hf hb0 hb1 hb2 hb3;simp[hx1,hx2,q1,q3,p3]
 obtain⟨hlen,hpl,hc⟩:=hR;rcases hc with⟨rfl,rfl⟩ |⟨i,ys,rfl,hi,hy,jb⟩
 .refine⟨0,.p .aj,[],⟨by simp,λ_ h=>by simp at h,.inl ⟨rfl,rfl⟩⟩,by omega,?_⟩;simp[au,reach,eQ,gM,ins,Vs.nodupB,D.ai,D.aC,D.refs,D.bk,D.aZ,D.ren,aH,hrun,back,iD,bR.ren,bZ]
 .refine⟨n,.ae (i+1+1) 168 n 2,sp.cl.map .p::rest,⟨by simp;omega,λcs hcs=>?_,.inr ⟨i+1,ys,rfl,by simpa using hi,hy,jb⟩⟩,hn,?_⟩
  .rcases cq.1 hcs with rfl |h
   .exact⟨sp.cl,rfl⟩
   .exact hpl cs h
  .simp[au,reach,eQ,gM,ins,Vs.nodupB,D.ai,D.aC,D.refs,D.bk,D.aZ,D.ren,aH,hrun,back,iD,bR.ren,bZ,XU rest hpl];omega
def Rt(es:List PD)(d:D)(tk:List Nat):Prop:=
 (∀e∈es,∃a b:Int,e= .agg [.int .i64 a,.int .i64 b])/\((d= .p .aj/\es=[]/\tk=[])\/(d= .aX 0 168 2 es/\tk=[O es]))
theorem PT{d:D}{tk:List Nat}(h:Rt es d tk)(hn:O es<1000)(bx:List (List D))(a b:Int):
    ∃d' zZ,fg 168 2 16 d [.agg [.int .i64 a,.int .i64 b]] ⟨bx,tk⟩=Z (d',⟨bx,zZ⟩)/\Rt (es++[.agg [.int .i64 a,.int .i64 b]]) d' zZ:=by
 have hr:roomy (O es+1) 16=true:=by
  simp only[roomy,bL,decide_eq_true_eq];omega
 have hr1:roomy 1 16=true:=by decide
 obtain⟨hpl,h⟩:=h;have Fs:∀e∈es++[PD.agg [.int .i64 a,.int .i64 b]],∃a b:Int,e= .agg [.int .i64 a,.int .i64 b]:=λe he=>by
  rcases cx.1 he with h |h
  .exact hpl e h
  .exact⟨a,b,by simpa using h⟩
 rcases h with⟨rfl,rfl,rfl⟩ |⟨rfl,rfl⟩
 .exact⟨.aX 0 168 2 [.agg [.int .i64 a,.int .i64 b]],[1],by simp[fg,hr1],Fs,.inr ⟨rfl,rfl⟩⟩
 .exact⟨.aX 0 168 2 (es++[.agg [.int .i64 a,.int .i64 b]]),[O es+1],by simp[fg,hr],Fs,.inr ⟨rfl,by simp⟩⟩
theorem ajv(b0:List D)(ix:D)(ps:Sl Pm)(i:Nat)(hi:i<O (els ps))(hs:O (els ps)<4611686018427387904)(d:D)(tk:List Nat):
    post (λo e H=>o= .exit 2/\H=⟨[b0],tk⟩/\e.get 1=ix/\e.get 2= .box 0 0/\e.get 5=d/\e.get 6= .p (gU ps)/\e.get 7= .p (.int .i64 ((i:Nat):Int))/\∃b:Bool,e.get 8= .p (.bool b))
     (dB (call pg) pg.G [1,2,5,6,7,8,9] (bd ki 1) ⟨[(1,ix),(2,.box 0 0),(5,d),(6,.p (gU ps)),(7,.p (.int .i64 ((i:Nat):Int))),(8,.p (.bool false)),(9,.p (.int .i64 0))],⟨[b0],tk⟩⟩):=by
 refine dT (c:=call pg) (G:=pg.G) (keep:=[1,2,5,6,7,8,9]) (b:=bd ki 1) (σ:=Nat×Bool) (λs=>[(1,ix),(2,.box 0 0),(5,d),(6,.p (gU ps)),(7,.p (.int .i64 ((i:Nat):Int))),(8,.p (.bool s.2)),(9,.p (.int .i64 ((s.1:Nat):Int)))]) (λ_=>⟨[b0],tk⟩) (λs=>i-s.1) (λs=>s.1<=i) _ ?_ (0,false) (bD _);rintro⟨j,b⟩ hj;dsimp only at hj|-;by_cases h:j<i
 .have ha:=Fb (s:=ps) hi;have hb:=Fb (s:=ps) (k:=j) (by omega);have k1:=bt (k:=j) (by omega);generalize (els ps)[i]=u at *;generalize (els ps)[j]'(by omega)=v at *;obtain⟨b',hb'⟩:∃b':Bool,b'=(b||decide (v.nm=u.nm)):=⟨_,rfl⟩;refine aG (Q:=nx [1,2,5,6,7,8,9] [(1,ix),(2,.box 0 0),(5,d),(6,.p (gU ps)),(7,.p (.int .i64 ((i:Nat):Int))),(8,.p (.bool b')),(9,.p (.int .i64 ((j+1 :Nat):Int)))] ⟨[b0],tk⟩) ?_ λo e H hh=>.inl ⟨(j+1,b'),by dsimp only;omega,by dsimp only;omega,hh⟩;subst hb'
  conv in bd ki 1=>reduce
  cases b with
  |true=>simp[h,k1]
  |false=>
   by_cases hc:v.nm=u.nm
   .simp[h,ha,hb,k1,hc]
   .simp[h,ha,hb,k1,hc]
 .have :j=i:=by omega
  subst this;refine aG (Q:=λo e H=>o= .exit 2/\H=⟨[b0],tk⟩/\e.get 1=ix/\e.get 2= .box 0 0/\e.get 5=d/\e.get 6= .p (gU ps)/\e.get 7= .p (.int .i64 ((j:Nat):Int))/\e.get 8= .p (.bool b)) ?_ ?_
  .skip
   conv in bd ki 1=>reduce
   simp
  .rintro o e H ⟨rfl,q1,q2,q3,q4,q5,q6,q7⟩;exact .inr ⟨by simp,rfl,q1,q2,q3,q4,q5,q6,b,q7⟩
theorem ajw(b0:List D)(ix:D)(ps:Sl Pm)(hs:O (els ps)<=8)(n0:Nat)(jb:n0<=1)(d0:D)(Cp:List Nat)(FI:List PD)(hl0:O FI=n0)(iy:Rt FI d0 Cp):
    post (λo e H=>o= .exit 0/\e.get 1=ix/\e.get 2= .box 0 0/\e.get 6= .p (gU ps)/\∃(es:List PD) (d:D) (tk:List Nat),e.get 5=d/\H=⟨[b0],tk⟩/\Rt es d tk/\O es<=9)
     (dB (call pg) pg.G [1,2,5,6,7] (bd ki 0) ⟨[(1,ix),(2,.box 0 0),(5,d0),(6,.p (gU ps)),(7,.p (.int .i64 0))],⟨[b0],Cp⟩⟩):=by
 refine dT (c:=call pg) (G:=pg.G) (keep:=[1,2,5,6,7]) (b:=bd ki 0) (σ:=Nat×List PD×D×List Nat) (λs=>[(1,ix),(2,.box 0 0),(5,s.2.2.1),(6,.p (gU ps)),(7,.p (.int .i64 ((s.1:Nat):Int)))]) (λs=>⟨[b0],s.2.2.2⟩) (λs=>O (els ps)-s.1) (λs=>s.1<=O (els ps)/\O s.2.1<=1+s.1/\Rt s.2.1 s.2.2.1 s.2.2.2) _ ?_ (0,FI,d0,Cp) ⟨bD _,by dsimp only;omega,iy⟩;rintro⟨i,es,d,tk⟩ ⟨hi,hn,hR⟩;dsimp only at hi hn hR|-;clear iy;by_cases h:i<O (els ps)
 .obtain⟨o,e,H,hx,rfl,rfl,q1,q2,q3,q4,q5,b,q6⟩:=bC (ajv b0 ix ps i h (by omega) d tk);have k1:=bt (k:=i) (by omega);cases b with
  |false=>
   refine aG (Q:=nx [1,2,5,6,7] [(1,ix),(2,.box 0 0),(5,d),(6,.p (gU ps)),(7,.p (.int .i64 ((i+1 :Nat):Int)))] ⟨[b0],tk⟩) ?_ λo e H hh=>.inl ⟨(i+1,es,d,tk),⟨by dsimp only;omega,by dsimp only;omega,hR⟩,by dsimp only;omega,hh⟩;have hb1:=rf (bd ki 1)
   conv at hb1=>rhs;reduce
   have hb0:=rf (bd ki 0)
   conv at hb0=>rhs;reduce
   rw[<-hb1] at hb0;rw[hb0];clear hb0 hb1;simp[kS,h,hx,q1,q2,q3,q4,q5,q6,k1]
  |true=>
   obtain⟨d',zZ,hap,ie⟩:=PT hR (by omega) [b0] 41 0;refine aG (Q:=nx [1,2,5,6,7] [(1,ix),(2,.box 0 0),(5,d'),(6,.p (gU ps)),(7,.p (.int .i64 ((i+1 :Nat):Int)))] ⟨[b0],zZ⟩) ?_ λo e H hh=>.inl ⟨(i+1,es++[.agg [.int .i64 41,.int .i64 0]],d',zZ),⟨by dsimp only;omega,by simp;omega,ie⟩,by dsimp only;omega,hh⟩;clear hR ie;have hb1:=rf (bd ki 1)
   conv at hb1=>rhs;reduce
   have hb0:=rf (bd ki 0)
   conv at hb0=>rhs;reduce
   rw[<-hb1] at hb0;rw[hb0];clear hb0 hb1;simp[-fg,-dJ,kS,h,hx,q1,q2,q3,q4,q5,q6,k1,zY,hap]
 .have :i=O (els ps):=by omega
  subst this;refine aG (Q:=λo e H=>o= .exit 0/\e.get 1=ix/\e.get 2= .box 0 0/\e.get 6= .p (gU ps)/\e.get 5=d/\H=⟨[b0],tk⟩) ?_ ?_
  .have hb1:=rf (bd ki 1)
   conv at hb1=>rhs;reduce
   have hb0:=rf (bd ki 0)
   conv at hb0=>rhs;reduce
   rw[<-hb1] at hb0;rw[hb0];clear hb0 hb1;simp[kS]
  .rintro o e H ⟨rfl,q1,q2,q3,q4,rfl⟩;exact .inr ⟨by simp,rfl,q1,q2,q3,es,d,tk,q4,rfl,hR,by omega⟩
def Er(y:PD)(es:List PD):Prop:=(∀e∈es,∃a b:Int,e= .agg [.int .i64 a,.int .i64 b])/\((y= .aj/\es=[])\/y= .slice 2 es)
theorem ajx(sp:Sp)(ok:mN sp)(hn:pC sp)(i:Nat)(hi:i<O (els sp.pr)):
    ∃(y:PD) (es:List PD),Er y es/\O es<=10/\∀H,au (call pg) 98 [.p (.agg sp.cl),.p (.int .i64 ((i:Nat):Int))] H=Z (.val (.p y),H):=by
 have hpl:O (els sp.pr)<4611686018427387904:=by have:=ok.np;omega
 have aS:=Fc hi;have hq:=ok.pd _ (dw hi);generalize (els sp.pr)[i]=q at *;obtain⟨p,c1,-⟩:=Km sp hpl i q.nm;obtain⟨er,pos,c2⟩:=XT sp ok hn i q.ps (by have:=hq.1.1;omega) q.bo hq.2;have key:=λn0 h0 d0 Cp FI hl0 iy=>ajw (sp.cl.map .p) (.p (.int .i64 ((i:Nat):Int))) q.ps hq.1.1 n0 h0 d0 Cp FI hl0 iy;have fin:∀es y,Er y es->O es<=10->post (gives true [.t 4] (.p y)) (aq (call pg) pg.G aM ((ki.map λf=>f.body).getD .skip) ⟨entry 0 [.p (.agg sp.cl),.p (.int .i64 ((i:Nat):Int))],⟨[],[]⟩⟩)->
     ∃(y:PD) (es:List PD),Er y es/\O es<=10/\∀H,au (call pg) 98 [.p (.agg sp.cl),.p (.int .i64 ((i:Nat):Int))] H=Z (.val (.p y),H):=by
  intro es y h1 h2 hr;have hb1:=rf (bd ki 1)
  conv at hb1=>rhs;reduce
  have hb0:=rf (bd ki 0)
  conv at hb0=>rhs;reduce
  rw[<-hb1] at hb0;have hf:=rf ki
  conv at hf=>rhs;reduce
  rw[<-hb1] at hf;rw[<-hb0] at hf;rw[hf] at hr;exact⟨y,es,h1,h2,aR (aa:=[_,_]) hf rfl rfl rfl hr⟩
 have hb1:=rf (bd ki 1)
 conv at hb1=>rhs;reduce
 have hb0:=rf (bd ki 0)
 conv at hb0=>rhs;reduce
 rw[<-hb1] at hb0;have hf:=rf ki
 conv at hf=>rhs;reduce
 rw[<-hb1] at hf;rw[<-hb0] at hf;rw[hf] at fin;simp only[fy,mq] at fin;clear hf hb0 hb1;clear hq;by_cases g:0<=p
 .obtain⟨o,e,H,hx,rfl,q1,q2,q6,es,d,tk,q5,rfl,hR,hl⟩:=bC (key 1 (by omega) (.aX 0 168 2 [.agg [.int .i64 41,.int .i64 0]]) [1] [.agg [.int .i64 41,.int .i64 0]] rfl ⟨λe he=>⟨41,0,by simpa using he⟩,.inr ⟨rfl,rfl⟩⟩);clear key;simp at hx;have hr1:roomy 1 16=true:=by decide
  by_cases e0:er=0
  .subst e0;obtain⟨hpl,hc⟩:=hR;rcases hc with⟨rfl,rfl,rfl⟩ |⟨rfl,rfl⟩
   .refine fin [] .aj ⟨hpl,.inl ⟨rfl,rfl⟩⟩ (by simp) ?_;clear fin;simp[aS,c1,c2,g,hr1,hx,q1,q2,q5,q6]
   .refine fin es (.slice 2 es) ⟨hpl,.inr rfl⟩ (by omega) ?_;clear fin;simp[aS,c1,c2,g,hr1,hx,q1,q2,q5,q6]
  .obtain⟨d',zZ,hap,hpl,hc⟩:=PT hR (by omega) [sp.cl.map .p,[.p (.int .i64 er),.p (.int .i64 pos)]] er pos;simp[-fg] at hap;rcases hc with⟨_,h,_⟩ |⟨rfl,rfl⟩
   .simp at h
   .refine fin _ (.slice 2 (es++[.agg [.int .i64 er,.int .i64 pos]])) ⟨hpl,.inr rfl⟩ (by simp;omega) ?_;clear fin;have hr2:fg 168 2 16 (.p .aj) [.agg [.int .i64 41,.int .i64 0]] ⟨[sp.cl.map .p],[]⟩=Z (.aX 0 168 2 [.agg [.int .i64 41,.int .i64 0]],⟨[sp.cl.map .p],[1]⟩):=by simp[fg,hr1]
    simp[-fg] at hr2;simp[-fg,aS,c1,c2,g,e0,hx,q1,q2,q5,q6,hap,hr2]
 .obtain⟨o,e,H,hx,rfl,q1,q2,q6,es,d,tk,q5,rfl,hR,hl⟩:=bC (key 0 (by omega) (.p .aj) [] [] rfl ⟨λe he=>by simp at he,.inl ⟨rfl,rfl,rfl⟩⟩);clear key;simp at hx;by_cases e0:er=0
  .subst e0;obtain⟨hpl,hc⟩:=hR;rcases hc with⟨rfl,rfl,rfl⟩ |⟨rfl,rfl⟩
   .refine fin [] .aj ⟨hpl,.inl ⟨rfl,rfl⟩⟩ (by simp) ?_;clear fin;simp[aS,c1,c2,g,hx,q1,q2,q5,q6]
   .refine fin es (.slice 2 es) ⟨hpl,.inr rfl⟩ (by omega) ?_;clear fin;simp[aS,c1,c2,g,hx,q1,q2,q5,q6]
  .obtain⟨d',zZ,hap,hpl,hc⟩:=PT hR (by omega) [sp.cl.map .p,[.p (.int .i64 er),.p (.int .i64 pos)]] er pos;simp[-fg] at hap;rcases hc with⟨_,h,_⟩ |⟨rfl,rfl⟩
   .simp at h
   .refine fin _ (.slice 2 (es++[.agg [.int .i64 er,.int .i64 pos]])) ⟨hpl,.inr rfl⟩ (by simp;omega) ?_;clear fin;simp[-fg,aS,c1,c2,g,e0,hx,q1,q2,q5,q6,hap]
theorem ajy{c n:Nat}{d:D}(h:Rw c n d rest)(hn:n+m<1000)(b0:List D)(k:List Nat)(xs:List PD)(hx:O xs=m*2):
    ∃d' rest',dx 168 2 16 d m (xs.map D.p) ⟨b0::rest,k⟩=Z (d',⟨b0::rest',k⟩)/\Rw c (n+m) d' rest':=by
 by_cases hm:m=0
 .subst hm;refine⟨d,rest,?_,h⟩;obtain⟨_,_,h⟩:=h;rcases h with⟨rfl,rfl⟩ |⟨i,ys,rfl,hi,hy,jb⟩
  .simp[dx,iT]
  .simp[dx]
 have hr1:roomy m 16=true:=by
  simp only[roomy,bL,decide_eq_true_eq];omega
 have hr:roomy (n+m) 16=true:=by
  simp only[roomy,bL,decide_eq_true_eq];omega
 obtain⟨hlen,hpl,h⟩:=h;rcases h with⟨rfl,rfl⟩ |⟨i,ys,rfl,hi,hy,jb⟩
 .refine⟨.ae (O rest+1) 168 m 2,rest++[xs.map D.p],?_,by simp;omega,λcs hcs=>?_,.inr ⟨O rest,xs,by simp,by simp,by omega,by omega⟩⟩
  .simp[dx,iT,hr1,hm]
  .rcases cx.1 hcs with h |h
   .exact hpl cs h
   .exact⟨xs,by simpa using h⟩
 .have cW:i<O rest:=(af.1 hi).1;refine⟨.ae (O rest+1) 168 (n+m) 2,rest.set i []++[(ys++xs).map D.p],?_,by simp;omega,λcs hcs=>?_,.inr ⟨O rest,ys++xs,rfl,?_,by simp[hy,hx];omega,by omega⟩⟩
  .have h2:¬(n+m)*2<=n*2:=by omega
   have h3:ys≠[]:=λe=>by rw[e] at hy;simp at hy;omega
   have h4:rE (n*2) (ys.map D.p)=ys.map D.p:=fK (by simp[hy]);have h5:rE (n*2) ys=ys:=fK (by simp[hy]);simp[dx,hi,hy,h2,h3,hr,h4,hm]
  .rcases cx.1 hcs with h |h
   .rcases K8 h with h |rfl
    .exact hpl cs h
    .exact⟨[],rfl⟩
   .exact⟨ys++xs,by simpa using h⟩
  .simp
theorem wF:∀es:List PD,(∀e∈es,∃a b:Int,e= .agg [.int .i64 a,.int .i64 b])->O (es.flatMap PD.cells)=O es*2
 |[],_=>rfl
 |e::es,h=>by
  obtain⟨a,b,rfl⟩:=h e rD;have:=wF es λe he=>h e (kA _ he);simp only[sP,gG,this,xm,ew,fH];omega
theorem ajz{y:PD}(h:Er y es):∃xs:List PD,O xs=O es*2/\∀H,gX H 2 (.p y)=Z (O es,xs.map D.p):=by
 obtain⟨hpl,h⟩:=h;rcases h with⟨rfl,rfl⟩ |rfl
 .exact⟨[],rfl,λH=>by simp[gX,dJ]⟩
 .exact⟨es.flatMap PD.cells,wF es hpl,λH=>by simp[gX,dJ,D.iR]⟩
theorem ajA(sp:Sp)(ok:mN sp)(hn:pC sp)(n0:Nat)(jb:n0<=10)(d0:D)(qg:List (List D))(iy:Rw 1 n0 d0 qg):
    post (λo e H=>o= .exit 0/\e.get 1= .box 0 0/\∃(n:Nat) (d:D) (rest:List (List D)),e.get 3=d/\H=⟨sp.cl.map .p::rest,[]⟩/\Rw 1 n d rest/\n<=90)
     (dB (call pg) pg.G [1,3,4] (bd a49 0) ⟨[(1,.box 0 0),(3,d0),(4,.p (.int .i64 0))],⟨sp.cl.map .p::qg,[]⟩⟩):=by
 have hpl:=ok.np;refine dT (c:=call pg) (G:=pg.G) (keep:=[1,3,4]) (b:=bd a49 0) (σ:=Nat×Nat×D×List (List D)) (λs=>[(1,.box 0 0),(3,s.2.2.1),(4,.p (.int .i64 ((s.1:Nat):Int)))]) (λs=>⟨sp.cl.map .p::s.2.2.2,[]⟩) (λs=>O (els sp.pr)-s.1) (λs=>s.1<=O (els sp.pr)/\s.2.1<=10+10*s.1/\Rw 1 s.2.1 s.2.2.1 s.2.2.2) _ ?_ (0,n0,d0,qg) ⟨bD _,by dsimp only;omega,iy⟩;rintro⟨i,n,d,rest⟩ ⟨hi,cE,hR⟩;dsimp only at hi cE hR|-;clear iy;by_cases h:i<O (els sp.pr)
 .obtain⟨y,es,hE,hl,hc⟩:=ajx sp ok hn i h;obtain⟨xs,nv,rh⟩:=ajz hE;have k1:=bt (k:=i) (by omega);obtain⟨d',rest',hap,ie⟩:=ajy hR (by omega) (sp.cl.map .p) [] xs nv;refine aG (Q:=nx [1,3,4] [(1,.box 0 0),(3,d'),(4,.p (.int .i64 ((i+1 :Nat):Int)))] ⟨sp.cl.map .p::rest',[]⟩) ?_ λo e H hh=>.inl ⟨(i+1,n+O es,d',rest'),⟨by dsimp only;omega,by dsimp only;omega,ie⟩,by dsimp only;omega,hh⟩;simp only[cB,j4] at hap;clear hR ie hE;generalize xs.map D.p=ys at *
  conv in bd a49 0=>reduce
  simp[-dJ,kT,h,hc,k1,rh,hap]
 .have :i=O (els sp.pr):=by omega
  subst this;refine aG (Q:=λo e H=>o= .exit 0/\e.get 1= .box 0 0/\e.get 3=d/\H=⟨sp.cl.map .p::rest,[]⟩) ?_ ?_
  .skip
   conv in bd a49 0=>reduce
   simp[kT]
  .rintro o e H ⟨rfl,q1,q3,rfl⟩;exact .inr ⟨by simp,rfl,q1,n,d,rest,q3,rfl,hR,by omega⟩
theorem ajB(sp:Sp)(i:Nat)(hi:i<O (els sp.fa))(hs:O (els sp.fa)<4611686018427387904)(d:D)(rest:List (List D)):
    post (λo e H=>o= .exit 4/\H=⟨sp.cl.map .p::rest,[]⟩/\e.get 1= .box 0 0/\e.get 3=d/\e.get 5= .p (.int .i64 ((i:Nat):Int))/\∃b:Bool,e.get 6= .p (.bool b))
     (dB (call pg) pg.G [1,3,5,6,7] (bd a49 2) ⟨[(1,.box 0 0),(3,d),(5,.p (.int .i64 ((i:Nat):Int))),(6,.p (.bool false)),(7,.p (.int .i64 0))],⟨sp.cl.map .p::rest,[]⟩⟩):=by
 refine dT (c:=call pg) (G:=pg.G) (keep:=[1,3,5,6,7]) (b:=bd a49 2) (σ:=Nat×Bool) (λs=>[(1,.box 0 0),(3,d),(5,.p (.int .i64 ((i:Nat):Int))),(6,.p (.bool s.2)),(7,.p (.int .i64 ((s.1:Nat):Int)))]) (λ_=>⟨sp.cl.map .p::rest,[]⟩) (λs=>i-s.1) (λs=>s.1<=i) _ ?_ (0,false) (bD _);rintro⟨j,b⟩ hj;dsimp only at hj|-;by_cases h:j<i
 .have ha:=Kb (s:=sp.fa) hi;have hb:=Kb (s:=sp.fa) (k:=j) (by omega);have k1:=bt (k:=j) (by omega);generalize (els sp.fa)[i]=u at *;generalize (els sp.fa)[j]'(by omega)=v at *;obtain⟨b',hb'⟩:∃b':Bool,b'=(b||decide (v.nm=u.nm)):=⟨_,rfl⟩;refine aG (Q:=nx [1,3,5,6,7] [(1,.box 0 0),(3,d),(5,.p (.int .i64 ((i:Nat):Int))),(6,.p (.bool b')),(7,.p (.int .i64 ((j+1 :Nat):Int)))] ⟨sp.cl.map .p::rest,[]⟩) ?_ λo e H hh=>.inl ⟨(j+1,b'),by dsimp only;omega,by dsimp only;omega,hh⟩;subst hb'
  conv in bd a49 2=>reduce
  cases b with
  |true=>simp[h,k1]
  |false=>
   by_cases hc:v.nm=u.nm
   .simp[h,ha,hb,k1,hc]
   .simp[h,ha,hb,k1,hc]
 .have :j=i:=by omega
  subst this;refine aG (Q:=λo e H=>o= .exit 4/\H=⟨sp.cl.map .p::rest,[]⟩/\e.get 1= .box 0 0/\e.get 3=d/\e.get 5= .p (.int .i64 ((j:Nat):Int))/\e.get 6= .p (.bool b)) ?_ ?_
  .skip
   conv in bd a49 2=>reduce
   simp
  .rintro o e H ⟨rfl,q1,q2,q3,q4,q5⟩;exact .inr ⟨by simp,rfl,q1,q2,q3,q4,b,q5⟩
theorem ajC{c n:Nat}{d:D}(h:Rw c n d rest)(xs:List PD):Rw (c+1) n d (rest++[xs.map D.p]):=by
 obtain⟨hlen,hpl,h⟩:=h;refine⟨by simp;omega,λcs hcs=>?_,?_⟩
 .rcases cx.1 hcs with h |h
  .exact hpl cs h
  .exact⟨xs,by simpa using h⟩
 .rcases h with h |⟨i,ys,rfl,hi,hy,jb⟩
  .exact .inl h
  .exact .inr ⟨i,ys,rfl,by rw[aT (af.1 hi).1];exact hi,hy,jb⟩
theorem Ku(b:Nat×Nat):eR (0,0) b=false:=by simp[eR]
theorem Kv(a:Nat×Nat):eR a (0,0)=false:=by simp[eR]
theorem Kw:eR (3,0) (3,0)=false:=by decide
theorem ajD{n:Nat}(h:n+1<2000000000):eR (3,0) (4+2*(n+1),0)=false:=by
 have h1:aV (4+2*(n+1))=true:=by
  simp only[aV,nR,bL,decide_eq_true_eq,beq_iff_eq];omega
 have h2:lg 3 (4+2*(n+1))=true:=by
  have e1:(4+2*(n+1)-4)/2=n+1:=by omega
  have e2:(4+2*(n+1))%2=0:=by omega
  simp[lg,e2,oL,h]
 simp[-lg,eR,h2]
theorem arM(l:List α)(x y:α):(l++[x]).set (O l) y=l++[y]:=by simp
theorem ajE(sp:Sp)(ok:mN sp)(hn:pC sp)(n0:Nat)(jb:n0<=90)(d0:D)(qg:List (List D))(iy:Rw 1 n0 d0 qg):
    post (λo e H=>o= .exit 2/\∃(c n:Nat) (d:D) (rest:List (List D)),e.get 3=d/\H=⟨sp.cl.map .p::rest,[]⟩/\Rw c n d rest/\n<=200)
     (dB (call pg) pg.G [1,3,5] (bd a49 1) ⟨[(1,.box 0 0),(3,d0),(5,.p (.int .i64 0))],⟨sp.cl.map .p::qg,[]⟩⟩):=by
 have hpl:=ok.na;refine dT (c:=call pg) (G:=pg.G) (keep:=[1,3,5]) (b:=bd a49 1) (σ:=Nat×Nat×D×List (List D)) (λs=>[(1,.box 0 0),(3,s.2.2.1),(5,.p (.int .i64 ((s.1:Nat):Int)))]) (λs=>⟨sp.cl.map .p::s.2.2.2,[]⟩) (λs=>O (els sp.fa)-s.1) (λs=>s.1<=O (els sp.fa)/\s.2.1<=90+2*s.1/\Rw (1+s.1) s.2.1 s.2.2.1 s.2.2.2) _ ?_ (0,n0,d0,qg) ⟨bD _,by dsimp only;omega,iy⟩;rintro⟨i,n,d,rest⟩ ⟨hi,cE,hR⟩;dsimp only at hi cE hR|-;clear iy;by_cases h:i<O (els sp.fa)
 .obtain⟨o,e,H,hx,rfl,rfl,q1,q3,q5,b,q6⟩:=bC (ajB sp i h (by omega) d rest);have aS:=Kb h;have hq:=ok.fc _ (dw h);obtain⟨er,pos,hc⟩:=ajn sp ok hn .nil (by simp[els]) ((els sp.fa)[i]).bo hq;have jd:gU .nil= .aj:=rfl;rw[jd] at hc;have k1:=bt (k:=i) (by omega);simp at hx
  -- the row behind a name's second use
  obtain⟨n1,d1,sG,ke,vJ,hst⟩:∃(n1:Nat) (d1:D) (sG:List (List D)),n1<=n+1/\Rw (1+i) n1 d1 sG/\((b=false/\d1=d/\sG=rest)\/(b=true/\dx 168 2 16 d 1 [.p (.int .i64 41),.p (.int .i64 0)] ⟨sp.cl.map .p::rest,[]⟩=Z (d1,⟨sp.cl.map .p::sG,[]⟩))):=by
   cases b with
   |false=>exact⟨n,d,rest,by omega,hR,.inl ⟨rfl,rfl,rfl⟩⟩
   |true=>
    obtain⟨d',rest',hap,ie⟩:=Kt hR (by omega) (sp.cl.map .p) [] (.int .i64 41) (.int .i64 0);exact⟨n+1,d',rest',by omega,ie,.inr ⟨rfl,hap⟩⟩
  have hlen:O sG+1<2000000000:=by have:=vJ.1;omega
  have tG:=ajD hlen;have BU:=ajC vJ [.int .i64 er,.int .i64 pos];generalize (els sp.fa)[i]=u at *;clear hq vJ hR ok;by_cases e0:er=0
  .refine aG (Q:=nx [1,3,5] [(1,.box 0 0),(3,d1),(5,.p (.int .i64 ((i+1 :Nat):Int)))] ⟨sp.cl.map .p::(sG++[[.p (.int .i64 er),.p (.int .i64 pos)]]),[]⟩) ?_ λo e H hh=>.inl ⟨(i+1,n1,d1,sG++[[.p (.int .i64 er),.p (.int .i64 pos)]]),⟨by dsimp only;omega,by dsimp only;omega,by rw[<-wb];exact BU⟩,by dsimp only;omega,hh⟩;clear BU;have hb2:=rf (bd a49 2)
   conv at hb2=>rhs;reduce
   have hb1:=rf (bd a49 1)
   conv at hb1=>rhs;reduce
   rw[<-hb2] at hb1;rw[hb1];clear hb1 hb2;rcases hst with⟨rfl,rfl,rfl⟩ |⟨rfl,hap⟩
   .simp[-eR,qf,h,hx,q1,q3,q5,q6,k1,aS,hc,e0,Ku,Kv,Kw,tG]
   .simp at hap;simp[-eR,qf,h,hx,q1,q3,q5,q6,k1,aS,hc,e0,Ku,Kv,Kw,tG,FH,hap]
  .obtain⟨d2,PU,PV,Jr⟩:=Kt BU (by omega) (sp.cl.map .p) [] (.int .i64 er) (.int .i64 pos);refine aG (Q:=nx [1,3,5] [(1,.box 0 0),(3,d2),(5,.p (.int .i64 ((i+1 :Nat):Int)))] ⟨sp.cl.map .p::PU,[]⟩) ?_ λo e H hh=>.inl ⟨(i+1,n1+1,d2,PU),⟨by dsimp only;omega,by dsimp only;omega,by rw[<-wb];exact Jr⟩,by dsimp only;omega,hh⟩;clear BU Jr;simp at PV;have hb2:=rf (bd a49 2)
   conv at hb2=>rhs;reduce
   have hb1:=rf (bd a49 1)
   conv at hb1=>rhs;reduce
   rw[<-hb2] at hb1;rw[hb1];clear hb1 hb2;rcases hst with⟨rfl,rfl,rfl⟩ |⟨rfl,hap⟩
   .simp[-eR,qf,h,hx,q1,q3,q5,q6,k1,aS,hc,e0,Ku,Kv,Kw,tG,FH,PV]
   .simp at hap;simp[-eR,qf,h,hx,q1,q3,q5,q6,k1,aS,hc,e0,Ku,Kv,Kw,tG,FH,hap,PV]
 .have :i=O (els sp.fa):=by omega
  subst this;refine aG (Q:=λo e H=>o= .exit 2/\e.get 3=d/\H=⟨sp.cl.map .p::rest,[]⟩) ?_ ?_
  .have hb2:=rf (bd a49 2)
   conv at hb2=>rhs;reduce
   have hb1:=rf (bd a49 1)
   conv at hb1=>rhs;reduce
   rw[<-hb2] at hb1;rw[hb1];clear hb1 hb2;simp[qf]
  .rintro o e H ⟨rfl,q3,rfl⟩;exact .inr ⟨by simp,rfl,_,n,d,rest,q3,rfl,hR,by omega⟩
theorem XV(k:Nat)(H:Hp)(f i e n sz:Nat):D.av k H (f+1) (.ae i e n sz)=if k<=i then(match H.bx[i]? with
      |some cs=>if ay cs=false/\0+n*sz<=O cs/\0<sz then(match D.j6 ((sub cs 0 (0+n*sz)).map (D.av k H f)) with
       |some ps=>.p (.slice sz (chunks sz n ps))
       |none=>.ae i e n sz) else .ae i e n sz
      |none=>.ae i e n sz) else .ae i e n sz:=rfl
theorem ajF{c n:Nat}{d:D}{b0:List D}(h:Rw c n d rest):∃y:PD,fin true d ⟨b0::rest,[]⟩ (.p y)/\∃k,dF 1 (.p y)=Z k:=by
 obtain⟨_,_,h⟩:=h;rcases h with⟨rfl,rfl⟩ |⟨i,ys,rfl,hi,hy,jb⟩
 .refine⟨.aj,?_,0,rfl⟩;simp[fin,D.av,D.ren]
 .refine⟨.slice 2 (chunks 2 n ys),?_,_,Bw _ _⟩;have h1:(ys.map D.p).map (D.av 0 ⟨b0::rest,[]⟩ 7)=ys.map D.p:=by
   rw[pO];refine pN λx _=>?_;simp[kj]
  have h2:sub (ys.map D.p) 0 (0+n*2)=ys.map D.p:=by
   simp[sub,fK,hy]
  have h3:D.j6 (ys.map D.p)=Z ys:=by
   clear h1 h2 hi hy
   induction ys with
   |nil=>rfl
   |cons y ys ih=>simp[D.j6,D.eZ,ih]
  have h4:(b0::rest)[i+1]? =Z (ys.map D.p):=by simpa using hi
  have h5:D.av 0 ⟨b0::rest,[]⟩ 8 (.ae (i+1) 168 n 2)= .p (.slice 2 (chunks 2 n ys)):=by
   rw[XV 0 _ 7,if_pos (bD _)];simp only[h4,h2,h1,h3];rw[if_pos ⟨vg _,by simp[hy],by decide⟩]
  simp[fin,h5,D.ren]
theorem ajG(sp:Sp)(ok:mN sp)(hn:pC sp):∃(y:PD) (k:Nat),dF 1 (.p y)=Z k/\∀H,au (call pg) 49 [.p (.agg sp.cl)] H=Z (.val (.p y),H):=by
 obtain⟨n0,d0,qg,iy,jb,hc⟩:=aju sp ok (sp.cl.map .p);obtain⟨o1,e1,H1,hx1,rfl,q1,n1,d1,sG,q3,rfl,vJ,ke⟩:=bC (ajA sp ok hn n0 jb d0 qg iy);obtain⟨o2,e2,H2,hx2,rfl,c,n,d,rest,p3,rfl,hR,kf⟩:=bC (ajE sp ok hn n1 ke d1 sG vJ);obtain⟨y,FJ,k,hk⟩:=ajF (b0:=sp.cl.map .p) hR;refine⟨y,k,hk,?_⟩;clear hR vJ iy hk;simp at hx1 hx2 hc FJ;have hb2:=rf (bd a49 2)
 conv at hb2=>rhs;reduce
 have hb1:=rf (bd a49 1)
 conv at hb1=>rhs;reduce
 rw[<-hb2] at hb1;have hb0:=rf (bd a49 0)
 conv at hb0=>rhs;reduce
 have hf:=rf a49
 conv at hf=>rhs;reduce
 rw[<-hb2] at hf;rw[<-hb1] at hf;rw[<-hb0] at hf;refine aR (aa:=[_]) hf rfl rfl rfl ?_;clear hf hb0 hb1 hb2;simp[hc,hx1,hx2,q1,q3,p3,FJ]
theorem PW(a:Sl Int)(st:Int){k:Nat}(hk:k<=O (els a))(hl:O (els a)<=1000)(h:∀x∈els a,0<=x/\x<=5):
    ∀H,au (call pg) 154 [.p (.agg [ax a,.int .i64 st]),.p (.int .i64 ((k:Nat):Int))] H=Z (.val (.p (.int .i64 (((els a).take k).sum))),H):=by
 have hb0:=rf (bd a154 0)
 conv at hb0=>rhs;reduce
 have hf:=rf a154
 conv at hf=>rhs;reduce
 rw[<-hb0] at hf;have key:=lI (c:=call pg) (G:=pg.G) (keep:=[1,2,5,6]) (b:=bd a154 0) (λi=>[(1,.p (.int .i64 ((k:Nat):Int))),(2,.box 0 0),(5,.p (.int .i64 (((els a).take i).sum))),(6,.p (.int .i64 ((i:Nat):Int)))]) (λ_=>⟨[[.p (ax a),.p (.int .i64 st)]],[]⟩) k (λ_=>True)
  (λo e H=>o= .exit 0/\e.get 5= .p (.int .i64 (((els a).take k).sum))) trivial ?_ ?_
 .obtain⟨o,e,H,hx,rfl,h3⟩:=bC key;refine aR (aa:=[_,_]) hf rfl rfl rfl ?_;clear hf hb0;simp at hx;simp[hx,h3]
 .intro i hi _;have bJ:i<O (els a):=by omega
  have hw:IntKind.i64.wrap (((els a).take i).sum+(els a)[i])=((els a).take i).sum+(els a)[i]:=by
   have:=W8 h (i+1);rw[B2 bJ] at this;exact wrap64 (by omega) (by omega)
  rw[hb0];clear hf hb0;simp[bG,eK bJ,hi,bJ,bt (k:=i) (by omega),B2 bJ,hw]
 .intro _;rw[hb0];clear hf hb0;simp
theorem PX(a:Sl Int)(st:Int)(hl:O (els a)<=1000)(h:∀x∈els a,0<=x/\x<=5):
    ∀H,au (call pg) 100 [.p (.agg [ax a,.int .i64 st])] H=Z (.val (.p (.int .i64 ((els a).sum))),H):=by
 have hf:=rf Vm
 conv at hf=>rhs;reduce
 have h1:=PW a st (aK _) hl h;rw[lQ] at h1;refine aR (aa:=[_]) hf rfl rfl rfl ?_;clear hf;simp[bG,h1]
theorem XW(a:Sl Int)(st:Int){k:Nat}(hk:k<=3)(hl:O (els a)<=1000)(h:∀x∈els a,0<=x/\x<=5){n:Nat}(hn:(els a).sum=n)(kf:n<=12):
    ∀H,au (call pg) 156 [.p (.agg [ax a,.int .i64 st]),.p (.int .i64 ((k:Nat):Int))] H=Z (.val (.p (.int .i64 ((n ^ k:Nat):Int))),H):=by
 have hb0:=rf (bd a156 0)
 conv at hb0=>rhs;reduce
 have hf:=rf a156
 conv at hf=>rhs;reduce
 rw[<-hb0] at hf;have hat:=PX a st hl h;rw[hn] at hat;have key:=lI (c:=call pg) (G:=pg.G) (keep:=[1,2,5,6]) (b:=bd a156 0) (λi=>[(1,.p (.int .i64 ((k:Nat):Int))),(2,.box 0 0),(5,.p (.int .i64 ((n ^ i:Nat):Int))),(6,.p (.int .i64 ((i:Nat):Int)))]) (λ_=>⟨[[.p (ax a),.p (.int .i64 st)]],[]⟩) k (λ_=>True)
  (λo e H=>o= .exit 0/\e.get 5= .p (.int .i64 ((n ^ k:Nat):Int))) trivial ?_ ?_
 .obtain⟨o,e,H,hx,rfl,h3⟩:=bC key;refine aR (aa:=[_,_]) hf rfl rfl rfl ?_;clear hf hb0;simp at hx;simp[hx,h3]
 .intro i hi _;rw[hb0];clear hf hb0;have h1:(i:Int)<3:=by omega
  have h2:IntKind.i64.wrap ((n:Int) ^ i*(n:Int))=(n:Int) ^ (i+1):=by
   have:=B3 kf (i:=i+1) (by omega);rw[show(n:Int) ^ i*(n:Int)=((n ^ (i+1):Nat):Int) by rw[Nat.pow_succ];simp,wrap64 (by omega) (by omega)];simp
  simp[hi,h1,h2,hat,bt (k:=i) (by omega)]
 .intro _;rw[hb0];clear hf hb0;simp
theorem XX(a:Sl Int)(st x:Int)(hl:O (els a)<=1000)(h:∀x∈els a,0<=x/\x<=5)(hx:0<=x):
    ∀H,au (call pg) 225 [.p (.agg [ax a,.int .i64 st]),.p (.int .i64 x)] H=Z (.val (.p (.int .i64 (mg (els a) 0 x))),H):=by
 have hb0:=rf (bd Jd 0)
 conv at hb0=>rhs;reduce
 have hf:=rf Jd
 conv at hf=>rhs;reduce
 rw[<-hb0] at hf;have key:=lI (c:=call pg) (G:=pg.G) (keep:=[1,2,5]) (b:=bd Jd 0) (λi=>[(1,.p (.int .i64 x)),(2,.box 0 0),(5,.p (.int .i64 ((i:Nat):Int)))]) (λ_=>⟨[[.p (ax a),.p (.int .i64 st)]],[]⟩) (O (els a))
  (λi=>((els a).take i).sum<=x/\mg ((els a).drop i) i (x-((els a).take i).sum)=mg (els a) 0 x)
  (λo e H=>H=⟨[[.p (ax a),.p (.int .i64 st)]],[]⟩/\((o= .exit 0/\mg (els a) 0 x= -1)\/(o= .ret/\e.get 4= .p (.int .i64 (mg (els a) 0 x))))) (by simp[hx]) ?_ ?_
 .obtain⟨o,e,H,hx,rfl,hq⟩:=bC key;refine aR (aa:=[_,_]) hf rfl rfl rfl ?_;clear hf hb0;simp at hx;rcases hq with⟨rfl,h3⟩ |⟨rfl,h3⟩
  .simp[hx,h3]
  .simp[hx,h3]
 .intro i hi ⟨hJ,hI⟩;rw[CZ hi] at hI;simp only[mg] at hI;have f1:=PW a st (k:=i) (by omega) hl h;have f2:=PW a st (k:=i+1) (by omega) hl h;have hs:=B2 hi;have k1:=bt (k:=i) (by omega);have XY:∀H,au (call pg) 154 [.p (.agg [ax a,.int .i64 st]),.p (.int .i64 ((i:Int)+1))] H=Z (.val (.p (.int .i64 (((els a).take (i+1)).sum))),H):=f2;rw[hb0];clear hf hb0;by_cases hc:x<((els a).take (i+1)).sum
  .rw[if_pos (by omega)] at hI;simp[bG,hi,f1,XY,hJ,hc,k1,<-hI]
  .rw[if_neg (by omega)] at hI;have hI2:mg ((els a).drop (i+1)) ((i:Int)+1) (x-((els a).take (i+1)).sum)=mg (els a) 0 x:=by
    rw[<-hI,B2 hi];congr 1
    omega
   have hJ2:((els a).take (i+1)).sum<=x:=by omega
   simp[bG,hi,f1,XY,hJ,hc,k1,hI2,hJ2]
 .intro⟨_,hI⟩;rw[Rc (aK _)] at hI;simp only[mg] at hI;rw[hb0];clear hf hb0;simp[bG,<-hI]
def jX(n:Int):Nat->Int->List Int
 | 0,_=>[]
 |k+1,r=>jX n k (r.tdiv n)++[r.tmod n]
theorem XZ(n:Int):∀(k:Nat) (r:Int),O (jX n k r)=k
 | 0,_=>rfl
 |k+1,r=>by simp[jX,XZ n k]
theorem Cq{n r:Int}(c:List PD)(hc:O c=3){j:Nat}(hj:j<3)(hn:1<=n)(hr:0<=r/\r<=4611686018427387904)(x0 _:List D)(ar:Int):
    post (nx [1,7,8,9,10] [(1,.p (.int .i64 ar)),(7,.bH 1 0 3 (Z 3) 1),(8,.p (.int .i64 n)),(9,.p (.int .i64 (r.tdiv n))),(10,.p (.int .i64 ((j:Int)-1)))] ⟨[x0,(c.set j (.int .i64 (r.tmod n))).map .p],[]⟩)
     (aq (call pg) pg.G aM (bd a157 0) ⟨Env.keep [1,7,8,9,10] [(1,.p (.int .i64 ar)),(7,.bH 1 0 3 (Z 3) 1),(8,.p (.int .i64 n)),(9,.p (.int .i64 r)),(10,.p (.int .i64 ((j:Nat):Int)))],⟨[x0,c.map .p],[]⟩⟩):=by
 conv in bd a157 0=>reduce
 have h1:¬n=0:=by omega
 have h2:IntKind.i64.wrap (r.tdiv n)=r.tdiv n:=by
  have:=Pf hn hr;exact wrap64 (by omega) (by omega)
 have h3:IntKind.i64.wrap ((j:Int)-1)=(j:Int)-1:=wrap64 (by omega) (by omega);obtain⟨c0,c1,c2,rfl⟩:∃c0 c1 c2,c=[c0,c1,c2]:=by
  match c,hc with
  |[c0,c1,c2],_=>exact⟨c0,c1,c2,rfl⟩
 have hj':j=0\/j=1\/j=2:=by omega
 rcases hj' with rfl |rfl |rfl
 .simp[dE,ay,h1,h2,wrap64]
 .simp[dE,ay,h1,h2,wrap64]
 .simp[dE,ay,h1,h2,wrap64]
theorem tP:∀l:List PD,D.j6 (l.map .p)=Z l
 |[]=>rfl
 |x::l=>by simp[D.j6,D.eZ,tP l]
theorem PY{i off n:Nat}{c:Option Nat}{ps:List PD}(h:H.bx[i]? =Z (ps.map .p))(hl:off+n*sz<=O ps)(hs:0<sz):fin true (.bH i off n c sz) H (.p (.slice sz (chunks sz n (sub ps off (off+n*sz))))):=by
 have h1:(D.bH i off n c sz).av 0 H 8= .p (.slice sz (chunks sz n (sub ps off (off+n*sz)))):=by
  have h2:(sub (ps.map D.p) off (off+n*sz)).map (D.av 0 H 7)=(sub ps off (off+n*sz)).map .p:=by
   simp[sub,<-List.map_take,<-List.map_drop,pO,kj,Function.comp_def]
  unfold D.av;simp only[bD,if_true,h,vg,bT,hl,hs,and_self,h2,tP]
 refine⟨.p (.slice sz (chunks sz n (sub ps off (off+n*sz)))),?_,rfl⟩;rw[if_pos rfl,h1];rfl
theorem ajI(a:Sl Int)(st:Int){k:Nat}(eF:1≤k)(hk:k≤3)(hl:(els a).length≤1000)(h:∀x∈els a,0≤x∧x≤5){n:Nat}(hn:(els a).sum=n)(ke:1≤n)(kf:n≤12){r:Nat}(hr:r<n ^ k):
    ∀H,au (call pg) 157 [.p (.agg [ax a,.int .i64 st]),.p (.int .i64 ((k:Nat):Int)),.p (.int .i64 ((r:Nat):Int))] H=some (.val (.p (ax (.of (jX n k r)))),H):=by
 have hat:=PX a st hl h;rw[hn] at hat;have z7:=XW a st hk hl h hn kf;have zR:=B3 kf hk;have g1:¬((k:Int)<0):=by omega
 have g2:¬((3 :Int)<(k:Int)):=by omega
 have g3:¬(n:Int) ^ k≤(r:Int):=by rw[←Rf];omega
 have g5:¬(r:Int)<0:=by omega
 have g4:IntKind.i64.wrap ((k:Int)-1)=(k:Int)-1:=wrap64 (by omega) (by omega);have last:∀(c0 c1 c2:Int) (q:Int),ax (.of (jX n k r))= .slice 1 (([c0,c1,c2].map (PD.int .i64)).take k)→
     post (fun o e H=>o= .exit 0∧e.get 1= .p (.int .i64 ((k:Nat):Int))∧e.get 7= .bH 1 0 3 (some 3) 1∧H=⟨[[.p (ax a),.p (.int .i64 st)],([c0,c1,c2].map (PD.int .i64)).map .p],[]⟩) (dB (call pg) pg.G [1,7,8,9,10] (bd a157 0) ⟨[(1,.p (.int .i64 ((k:Nat):Int))),(7,.bH 1 0 3 (some 3) 1),(8,.p (.int .i64 ((n:Nat):Int))),(9,.p (.int .i64 q)),(10,.p (.int .i64 (-1)))],⟨[[.p (ax a),.p (.int .i64 st)],([c0,c1,c2].map (PD.int .i64)).map .p],[]⟩⟩):=by
  intro c0 c1 c2 q _;refine ag9 ?_
  conv in bd a157 0=>reduce
  simp
 have main:∃c0 c1 c2:Int,ax (.of (jX n k r))= .slice 1 (([c0,c1,c2].map (PD.int .i64)).take k)∧
     post (fun o e H=>o= .exit 0∧e.get 1= .p (.int .i64 ((k:Nat):Int))∧e.get 7= .bH 1 0 3 (some 3) 1∧H=⟨[[.p (ax a),.p (.int .i64 st)],([c0,c1,c2].map (PD.int .i64)).map .p],[]⟩) (dB (call pg) pg.G [1,7,8,9,10] (bd a157 0) ⟨[(1,.p (.int .i64 ((k:Nat):Int))),(7,.bH 1 0 3 (some 3) 1),(8,.p (.int .i64 ((n:Nat):Int))),(9,.p (.int .i64 ((r:Nat):Int))),(10,.p (.int .i64 ((k:Int)-1)))],⟨[[.p (ax a),.p (.int .i64 st)],([0,0,0].map (PD.int .i64)).map .p],[]⟩⟩):=by
  have b0:(0 :Int)≤(r:Int)∧(r:Int)≤4611686018427387904:=by omega
  have b1:=Pf (n:=n) (by omega) b0;have b2:=Pf (n:=n) (by omega) b1;have kG:k=1∨k=2∨k=3:=by omega
  rcases kG with rfl |rfl |rfl
  ·refine⟨(r:Int).tmod n,0,0,by simp[jX,ax,eh,Sl.map],?_⟩;exact BZ (Cq (n:=n) (r:=r) ([0,0,0].map (PD.int .i64)) rfl (j:=0) (by omega) (by omega) b0 _ [] _) (last _ _ _ _ (by simp[jX,ax,eh,Sl.map]))
  ·refine⟨((r:Int).tdiv n).tmod n,(r:Int).tmod n,0,by simp[jX,ax,eh,Sl.map],?_⟩;refine BZ (Cq (n:=n) (r:=r) ([0,0,0].map (PD.int .i64)) rfl (j:=1) (by omega) (by omega) b0 _ [] _) ?_;exact BZ (Cq (n:=n) (r:=(r:Int).tdiv n) ([0,(r:Int).tmod n,0].map (PD.int .i64)) rfl (j:=0) (by omega) (by omega) b1 _ [] _) (last _ _ _ _ (by simp[jX,ax,eh,Sl.map]))
  ·refine⟨(((r:Int).tdiv n).tdiv n).tmod n,((r:Int).tdiv n).tmod n,(r:Int).tmod n,by simp[jX,ax,eh,Sl.map],?_⟩;refine BZ (Cq (n:=n) (r:=r) ([0,0,0].map (PD.int .i64)) rfl (j:=2) (by omega) (by omega) b0 _ [] _) ?_;refine BZ (Cq (n:=n) (r:=(r:Int).tdiv n) ([0,0,(r:Int).tmod n].map (PD.int .i64)) rfl (j:=1) (by omega) (by omega) b1 _ [] _) ?_;exact BZ (Cq (n:=n) (r:=((r:Int).tdiv n).tdiv n) ([0,((r:Int).tdiv n).tmod n,(r:Int).tmod n].map (PD.int .i64)) rfl (j:=0) (by omega) (by omega) b2 _ [] _) (last _ _ _ _ (by simp[jX,ax,eh,Sl.map]))
 obtain⟨c0,c1,c2,hc,hm⟩:=main;obtain⟨o,e,H,hx,rfl,e1,e7,rfl⟩:=bC hm;have hb0:=rf (bd a157 0)
 conv at hb0=>rhs;reduce
 have hf:=rf a157
 conv at hf=>rhs;reduce
 rw[←hb0] at hf;refine aR (aa:=[_,_,_]) hf rfl rfl rfl ?_;clear hf hb0;simp at hx;have qQ:Gk 1 (.int .i64 0) 8 (.p (.int .i64 3)) (.p (.int .i64 3)) ⟨[[.p (ax a),.p (.int .i64 st)]],[]⟩=some (.bH 1 0 3 (some 3) 1,⟨[[.p (ax a),.p (.int .i64 st)],[.p (.int .i64 0),.p (.int .i64 0),.p (.int .i64 0)]],[]⟩):=by rfl
 have bW:yf 1 (.bH 1 0 3 (some 3) 1) none (some (.p (.int .i64 ((k:Nat):Int))))=some (.bH 1 0 k (some 3) 1):=by
  simp[yf,kD,D.lS,C6,hk]
 simp[z7,hat,g1,g2,g3,g4,g5,qQ,hx,e1,e7,bW];rw[hc];have kG:k=1∨k=2∨k=3:=by omega
 rcases kG with rfl |rfl |rfl
 ·exact PY (ps:=[c0,c1,c2].map (PD.int .i64)) rfl (by simp) (by omega)
 ·exact PY (ps:=[c0,c1,c2].map (PD.int .i64)) rfl (by simp) (by omega)
 ·exact PY (ps:=[c0,c1,c2].map (PD.int .i64)) rfl (by simp) (by omega)
theorem ajJ(a so ds:Sl Int)(st:Int)(hl:O (els a)<=1000)(h:∀x∈els a,0<=x/\x<=5)(oh:∀x∈els ds,0<=x)(hlen:O (els ds)=O (els so))(hs:O (els so)<4611686018427387904):
    ∃r:Bool,(∀H,au (call pg) 158 [.p (.agg [ax a,.int .i64 st]),.p (ax ds),.p (ax so)] H=Z (.val (.p (.bool r)),H))/\(r=true↔(els ds).map (mg (els a) 0)=els so):=by
 have key:=zP (c:=call pg) (G:=pg.G) (keep:=[1,2,3,7]) (b:=bd zD 0) (λi=>[(1,.p (ax ds)),(2,.p (ax so)),(3,.box 0 0),(7,.p (.int .i64 ((i:Nat):Int)))]) ⟨[[.p (ax a),.p (.int .i64 st)]],[]⟩ (O (els so))
  (λi=>((els ds).map (mg (els a) 0))[i]? =(els so)[i]?) 0 (λ_=>True) (λe=>e.get 6= .p (.bool false))
  (λi hi hP=>by
   conv in bd zD 0=>reduce
   have bJ:i<O (els ds):=by omega
   rw[cG,aD hi,aD bJ,fy,bM] at hP;have c1:=XX a st (els ds)[i] hl h (oh _ (dw bJ));simp[bG,eK hi,eK bJ,hi,c1,hP,bt (k:=i) (by omega)])
  (λi hi hP=>by
   conv in bd zD 0=>reduce
   have bJ:i<O (els ds):=by omega
   rw[cG,aD hi,aD bJ,fy,bM] at hP;have c1:=XX a st (els ds)[i] hl h (oh _ (dw bJ));simp[bG,eK hi,eK bJ,hi,c1,hP])
  (by
   conv in bd zD 0=>reduce
   simp[bG])
 have hb0:=rf (bd zD 0)
 conv at hb0=>rhs;reduce
 have hf:=rf zD
 conv at hf=>rhs;reduce
 rw[<-hb0] at hf;rcases key with⟨e,hx,-,hp⟩ |⟨e,hx,hr,hp⟩
 .refine⟨true,aR (aa:=[_,_,_]) hf rfl rfl rfl ?_,iff_of_true rfl (lO λi=>?_)⟩
  .clear hf hb0;simp at hx;simp[hx]
  .rcases fA i (O (els so)) with h |h
   .exact hp i h
   .rw[nS h,nS (by rw[bT];omega)]
 .refine⟨false,aR (aa:=[_,_,_]) hf rfl rfl rfl ?_,iff_of_false (by simp) λhh=>hp λi _=>by rw[hh]⟩;clear hf hb0;simp at hx;simp[hx,hr]
theorem X0{n:Int}(hn:1<=n):∀(k:Nat) (r:Int),0<=r->∀x∈jX n k r,0<=x
 | 0,_,_,x,hx=>by simp[jX] at hx
 |k+1,r,hr,x,hx=>by
  simp only[jX,cx,nT] at hx;rcases hx with hx |hx
  .exact X0 hn k _ (Int.tdiv_nonneg hr (by omega)) x hx
  .subst hx;rw[aab hr];exact Int.emod_nonneg _ (by omega)
def lJ(n:Nat)(ats so:List Int)(m:Nat):List Int:=((j3 m).filter λt:Nat=>decide ((jX n (O so) (t:Int)).map (mg ats 0)=so)).map λt=>((t:Nat):Int)
theorem X1(n:Nat)(ats so:List Int)(m:Nat):dn (lJ n ats so m):=by
 unfold lJ dn;rw[AB];refine Ri (R:=λa b:Nat=>a<b) (by intro a b h;omega) ?_;exact Gg _ List.pairwise_lt_range
theorem PZ(n:Nat)(ats so:List Int)(m:Nat):O (lJ n ats so m)<=m:=by
 unfold lJ;rw[bT];exact fW (C3 _ _) (by simp)
theorem X2(a so:Sl Int)(st:Int)(hl:O (els a)<=1000)(h:∀x∈els a,0<=x/\x<=5)(Cr:sB (O (els a)) (els so)){n:Nat}(hn:(els a).sum=n)(ke:1<=n)(kf:n<=12):
    ∃d,(∀H,au (call pg) 102 [.p (.agg [ax a,.int .i64 st]),.p (ax so)] H=Z (.val d,H))/\Pk d (O (els so)) (qX (lJ n (els a) (els so) (n ^ O (els so)))):=by
 obtain⟨f1,f2,f3⟩:=Cr;have zR:=B3 kf f3;have z7:=XW a st f3 hl h hn kf;have Fe:=lI (c:=call pg) (G:=pg.G) (keep:=[1,2,4,5,6]) (b:=bd tE 0) (λi=>[(1,.p (ax so)),(2,.box 0 0),(4,.box 1 0),(5,.p (.int .i64 ((O (els so):Nat):Int))),(6,.p (.int .i64 ((i:Nat):Int)))]) (λ_=>⟨[[.p (ax a),.p (.int .i64 st)],[.p (.int .i64 0),.p .aj]],[]⟩) (O (els so)) (λ_=>True)
  (λo e H=>H=⟨[[.p (ax a),.p (.int .i64 st)],[.p (.int .i64 0),.p .aj]],[]⟩/\o= .exit 0/\e.get 1= .p (ax so)/\e.get 2= .box 0 0/\e.get 4= .box 1 0/\e.get 5= .p (.int .i64 ((O (els so):Nat):Int))) trivial
  (λi hi _=>by
   conv in bd tE 0=>reduce
   have hm:=f1 _ (dw hi);have g1:¬(els so)[i]<0:=by omega
   have g2:¬(O (els a):Int)<=(els so)[i]:=by omega
   simp[bG,eK hi,hi,g1,g2,bt (k:=i) (by omega)])
  (λ_=>by
   conv in bd tE 0=>reduce
   simp)
 have Pv:=lI (c:=call pg) (G:=pg.G) (keep:=[1,2,4,5,7,8]) (b:=bd tE 1) (λi=>[(1,.p (ax so)),(2,.box 0 0),(4,.box 1 0),(5,.p (.int .i64 ((O (els so):Nat):Int))),(7,.box 2 0),(8,.p (.int .i64 ((i:Nat):Int)))])
  (λi=>⟨[[.p (ax a),.p (.int .i64 st)],[.p (.int .i64 0),.p .aj],[.p (.int .i64 ((O (els so):Nat):Int)),kR 3 1 ((lJ n (els a) (els so) i).map (PD.int .i64))]],tK ((lJ n (els a) (els so) i).map (PD.int .i64))⟩) (n ^ O (els so)) (λ_=>True)
  (λo e H=>o= .exit 2/\e.get 4= .box 1 0/\e.get 7= .box 2 0/\∃tk,H=⟨[[.p (ax a),.p (.int .i64 st)],[.p (.int .i64 0),.p .aj],[.p (.int .i64 ((O (els so):Nat):Int)),kR 3 1 ((lJ n (els a) (els so) (n ^ O (els so))).map (PD.int .i64))]],tk⟩) trivial
  (λi hi _=>by
   conv in bd tE 1=>reduce
   have g1:(i:Int)<(n:Int) ^ O (els so):=by rw[<-Rf];omega
   have ht:=ajI a st f2 f3 hl h hn ke kf hi;obtain⟨r,c1,d1⟩:=ajJ a so (.of (jX n (O (els so)) i)) st hl h (X0 (by omega) _ _ (by omega)) (XZ _ _ _) (by omega);have dZ:lJ n (els a) (els so) (i+1)=lJ n (els a) (els so) i++if r=true then[(i:Int)] else[]:=by
    unfold lJ;rw[List.range_succ,Rg,oJ];congr 1
    simp only[Az,Ra];cases r with
    |true=>
     have :(jX n (O (els so)) i).map (mg (els a) 0)=els so:=d1.1 rfl;simp[this]
    |false=>
     have :¬(jX n (O (els so)) i).map (mg (els a) 0)=els so:=λhh=>by
      have:=d1.2 hh;cases this
     simp[this]
   have hlen:O ((lJ n (els a) (els so) i).map (PD.int .i64))<1000000000:=by
    have:=PZ n (els a) (els so) i;rw[bT];omega
   have hap:=λbx=>Pj (e:=3) (sz:=1) (by':=8) (x:=.int .i64 (i:Int)) (bx:=bx) hlen (by omega);rw[dZ,oJ];generalize (lJ n (els a) (els so) i).map (PD.int .i64)=L at *;clear dZ;cases r with
   |true=>
    simp only[if_true,cB,j4];simp[-fg,g1,z7,ht,c1,hap,Xd,bt (k:=i) (by omega)]
   |false=>
    simp only[qp,if_false,j4,iQ];simp[-fg,g1,z7,ht,c1,bt (k:=i) (by omega)])
  (λ_=>by
   conv in bd tE 1=>reduce
   simp[z7])
 obtain⟨o,e,H,hx,rfl,rfl,g1,g2,g4,g5⟩:=bC Fe;obtain⟨o,e',H,gz,rfl,X3,X4,tk,rfl⟩:=bC Pv;have h1:¬(O (els so):Int)<1:=by omega
 have h2:¬(3 :Int)<(O (els so):Int):=by omega
 have h3:lJ n (els a) (els so) 0=[]:=rfl;rw[h3] at gz;generalize lJ n (els a) (els so) (n ^ O (els so))=L at *;have hb1:=rf (bd tE 1)
 conv at hb1=>rhs;reduce
 have hb0:=rf (bd tE 0)
 conv at hb0=>rhs;reduce
 have hf:=rf tE
 conv at hf=>rhs;reduce
 rw[<-hb1] at hf;rw[<-hb0] at hf;simp at hx gz;rcases Xe L 3 with⟨-,hg⟩ |⟨t,hg,hk⟩
 .refine⟨.p (.agg [.int .i64 (O (els so)),ax (qX L)]),aR (aa:=[_,_]) hf rfl rfl rfl ?_,.inl rfl⟩;clear hf hb0 hb1;rw[hg] at gz;simp[bG,h1,h2,hx,g1,g2,g4,g5,gz,X3,X4]
 .refine⟨.agg [.p (.int .i64 (O (els so))),.p (ax (qX L))],aR (aa:=[_,_]) hf rfl rfl rfl ?_,.inr rfl⟩;clear hf hb0 hb1;rw[hg] at gz;simp[bG,h1,h2,hx,g1,g2,g4,g5,gz,X3,X4,hk]
theorem Gr.av{e:Nat}{d:D}(h:Gr e sz base es d rest)(hs:0<sz)(bs:List (List D))(eU:O bs=base)(k:List Nat)(f:Nat):
    D.av 0 ⟨bs++rest,k⟩ (f+2) d= .p (rowP sz es):=by
 obtain⟨_,hE,h⟩:=h;rcases h with⟨rfl,rfl⟩ |⟨i,rfl,hi,hne⟩
 .exact kj _ _ _ _
 .have dG:=PM hE;have h1:((es.flatMap PD.cells).map D.p).map (D.av 0 ⟨bs++rest,k⟩ (f+1))=(es.flatMap PD.cells).map D.p:=by
   rw[pO];refine pN λx _=>?_;simp[kj]
  have h2:sub ((es.flatMap PD.cells).map D.p) 0 (0+O es*sz)=(es.flatMap PD.cells).map D.p:=by
   unfold sub;rw[pM];exact fK (by rw[bT,dG];omega)
  have h4:(bs++rest)[base+i]? =Z ((es.flatMap PD.cells).map D.p):=by
   rw[cR (by omega),eU,tZ];exact hi
  rw[XV 0 _ (f+1),if_pos (bD _)];simp only[h4,h2,h1,tP];rw[if_pos ⟨vg _,by rw[bT,dG];omega,hs⟩,vG hE];cases es with
  |nil=>exact absurd rfl hne
  |cons=>rfl
theorem Gr.one{e:Nat}{d:D}(h:Gr e sz base es d rest):d.one=true:=by
 rcases h.2.2 with⟨rfl,_⟩ |⟨i,rfl,_⟩<;>rfl
theorem Gr.cells{e:Nat}{d:D}(h:Gr e sz base es d rest):d.cells=[d]:=by
 rcases h.2.2 with⟨rfl,_⟩ |⟨i,rfl,_⟩<;>rfl

@[simp] theorem arN(i e n sz:Nat):(D.ae i e n sz).one=true:=rfl
theorem ajK{e:Nat}{d:D}(h:Gr e sz base es d rest)(hs:0<sz)(bs:List (List D))(eU:O bs=base)(k:List Nat):
    fin true d ⟨bs++rest,k⟩ (.p (rowP sz es)):=by
 have h1:=h.av hs bs eU k 6;exact⟨.p (rowP sz es),by rw[h1];simp[D.ren],rfl⟩
theorem ajL(l:List (Int×Int)):rowP 2 (l.map gy)=pB (fU l):=by cases l<;>rfl
theorem ajM(l:List Int):aH intOf (l.map (PD.int .i64))=Z l:=by
 induction l with
 |nil=>rfl
 |cons a r ih=>simp[aH,intOf,ih]
theorem ajN(a:Sl Int):wZ (ax a)=Z (els a):=by
 cases a with
 |nil=>rfl
 |of l=>
  cases l with
  |nil=>rfl
  |cons x r=>simpa[ax,eh,wZ,Sl.map,els] using ajM (x::r)
 |cJ=>rfl

attribute [local irreducible] pw nz nA jt
theorem Gr.ext{e:Nat}{d:D}(h:Gr e sz base es d rest)(ys:List PD):Gr e sz base es d (rest++[ys.map D.p]):=by
 obtain⟨h1,h2,h3⟩:=h;refine⟨λcs hcs=>?_,h2,?_⟩
 .rcases cx.1 hcs with h |h
  .exact h1 cs h
  .exact⟨ys,nT.1 h⟩
 .rcases h3 with h3 |⟨i,q1,q2,q3⟩
  .exact .inl h3
  .exact .inr ⟨i,q1,by rw[aT (af.1 q2).1];exact q2,q3⟩
theorem Gr.ajO{e:Nat}{d:D}(h:Gr e sz base es d rest)(hn:O es<1000000)(hb:by'<=1000)(hs:0<sz)(bs:List (List D))(eU:O bs=base)(k:List Nat)(hx:nI sz x):
    ∃d' rest',dx e sz by' d 1 (x.cells.map .p) ⟨bs++rest,k⟩=Z (d',⟨bs++rest',k⟩)/\Gr e sz base (es++[x]) d' rest'/\∀(j:Nat) (ys:List D),rest[j]? =Z ys->O ys≠O es*sz->rest'[j]? =Z ys:=by
 have hr:roomy (O es+1) by'=true:=by
  have :(O es+1)*by'<=1000000*1000:=ud (by omega) hb;simp only[roomy,bL,decide_eq_true_eq];omega
 obtain⟨d',rest',hap,hg⟩:=h.app hn hb hs bs eU k hx;refine⟨d',rest',hap,hg,λj ys hj hne=>?_⟩;have jz:=(af.1 hj).1;obtain⟨_,hE,h⟩:=h;rcases h with⟨rfl,rfl⟩ |⟨i,rfl,hi,mX⟩
 .have hr1:roomy 1 by'=true:=by simpa using hr
  simp[dx,iT,hr1] at hap;rw[<-hap.2,aT jz];exact hj
 .have cW:i<O rest:=(af.1 hi).1;have dG:=PM hE;have cI:i≠j:=λh=>by
   subst h;rw[hi] at hj;cases hj;exact hne (by rw[bT,dG])
  have s7:0<O es*sz:=Nat.mul_pos (wh.2 mX) hs;have h1:(bs++rest)[base+i]? =Z ((es.flatMap PD.cells).map D.p):=by
   rw[cR (by omega),eU,tZ];exact hi
  have h2:¬(O es+1)*sz<=O es*sz:=by rw[fX];omega
  have h3:(es.flatMap PD.cells).map D.p≠[]:=λh=>by
   have:=congrArg oI h;rw[bT,dG] at this;simp at this;omega
  have h5:(bs++rest).set (base+i) []=bs++rest.set i []:=by
   rw[Rh _ _ (by omega),eU,tZ]
  have h6:O ((es.flatMap PD.cells).map D.p)=O es*sz:=by rw[bT,dG]
  simp only[dx,h1,h5,h6,hr,vg,and_self,if_true,if_false,aK,ne_eq,h3,not_false_eq_true,h2,Nat.succ_ne_zero,bM,mr,Hp.mk.injEq,j2,List.append_cancel_left_eq] at hap;rw[<-hap.2.1,aT (by rw[Ge];exact jz),bp cI];exact hj
theorem Gr.X5{e:Nat}{d:D}(h:Gr e sz base es d rest):ay [d]=false:=by
 rcases h.2.2 with⟨rfl,_⟩ |⟨i,rfl,_⟩<;>rfl
theorem im1(x:PD):ay [.p x]=false:=rfl
theorem ajQ{c:br}{xs:List (List D)}{fe rest:SC}{env:Env}{ps:List Nat}{kb:Hp->Bool}{k1 k2:Nat}(I:Nat->Hp->Prop)(h0:I 0 H)
    (h:∀i x H,xs[i]? =Z x->I i H->O x=O ps/\post (λo e H1=>o= .norm/\post (λo _ H2=>o= .norm/\kb H2=true/\I (i+1) H2) (aq c G aM b ⟨e,H1⟩)) (aq c G aM fe ⟨mC env ps x,H⟩))
    (hq:∀H',I (O xs) H'->post Q (se c G (Z (.norm,⟨env,H'⟩)) rest)):post Q (se c G (sf k1 (sf k2 (y9 c G (Z xs) fe b env ps kb H))) rest):=by
 obtain⟨H',h1,h2⟩:=Kl (kb:=kb) I xs 0 H h0 λi x H hx hI=>by simpa using h i x H hx (by simpa using hI)
 rw[ez] at h2;have h3:y9 c G (Z xs) fe b env ps kb H=Z (.norm,⟨env,H'⟩):=h1;rw[h3];exact hq H' h2
theorem ajR(la ua:Int)(lo up:Sl Int):
    ∀H,au (call pg) 159 [.p (.agg [.int .i64 la,ax lo,.int .i64 ua,ax up])] H=Z (.val (.fn 226 [] [.ro [.int .i64 la,ax lo,.int .i64 ua,ax up] 0]),H):=by
 have hf:=rf a159
 conv at hf=>rhs;reduce
 refine aR (aa:=[_]) hf rfl rfl rfl ?_;clear hf;simp[fin,D.av,D.j6,D.eZ]
theorem X6:∀{l:List Int},dn l->zz l=true
 |[],_=>rfl
 |[_],_=>rfl
 |a::b::r,h=>by
  have h1:=pP.1 h;have:=h1.1 b rD;simp only[zz,bL,decide_eq_true_eq];exact⟨by omega,X6 h1.2⟩
theorem ajS(la ua:Int)(lo up:Sl Int)(hs:dn (els lo))(h1:O (els lo)<4611686018427387904)(h2:O (els up)<4611686018427387904)(H:Hp):
    nz [] [.ro [.int .i64 la,ax lo,.int .i64 ua,ax up] 0] H=Z ((Kk (els up) (els lo)).map λt=>[.p (.int .i64 t)]):=by
 unfold nz;simp only[ajN];rw[if_pos ⟨X6 hs,h1,h2⟩]

theorem ajT(p:Int×Int):nI 2 (gy p):=.inr ⟨by decide,_,rfl,rfl⟩
theorem arO(l:List α)(x y:α)(r:List α):(l++x::r).set (O l) y=l++y::r:=by
 rw[Rh _ _ (aK _),Au];rfl
theorem arP(l:List α)(x z y:α)(r:List α):(l++x::z::r).set (O l+1) y=l++x::y::r:=by
 rw[Rh _ _ (by omega),tZ];rfl
theorem ajU(l:List α)(x:α)(r:List α):(l++x::r)[O l]? =Z x:=by
 rw[cR (aK _),Au];rfl
theorem arQ(l:List α)(x z:α)(r:List α):(l++x::z::r)[O l+1]? =Z z:=by
 rw[cR (by omega),tZ];rfl
theorem ajV(bs:Sl Bn)(hl:O (els bs)<=1000)(hu:∀b∈els bs,O (els b.up.tu)<=900/\O (els b.lo.tu)<=900)(hs:∀b∈els bs,dn (els b.lo.tu)):
    ∀H,au (call pg) 104 [.p (cM bs)] H=Z (.val (.p (pB (fU (bu 0 (els bs))))),H):=by
 have key:=dT (c:=call pg) (G:=pg.G) (σ:=Nat×D×List (List D)) (keep:=[3,7,8,9]) (b:=bd zC 0)
  (λs=>[(3,.box 0 0),(7,.p (cM bs)),(8,.p (.int .i64 ((O (els bs):Nat):Int))),(9,.p (.int .i64 ((s.1:Nat):Int)))]) (λs=>⟨[s.2.1]::s.2.2,[]⟩)
  (λs=>O (els bs)-s.1) (λs=>s.1<=O (els bs)/\Gr 112 2 1 ((bu 0 ((els bs).take s.1)).map gy) s.2.1 s.2.2)
  (λo e H=>o= .exit 0/\e.get 3= .box 0 0/\∃d rest,H=⟨[d]::rest,[]⟩/\Gr 112 2 1 ((bu 0 (els bs)).map gy) d rest) ?_ (0,.p .aj,[]) ⟨bD _,Gr.nil ..⟩
 .obtain⟨o,e,H,hx,rfl,g3,d,rest,rfl,hd⟩:=bC key;have h1:=hd.one;have fu:=ajK hd (by omega) [[d]] rfl [];rw[ajL] at fu;have hb0:=rf (bd zC 0)
  conv at hb0=>rhs;reduce
  have hf:=rf zC
  conv at hf=>rhs;reduce
  rw[<-hb0] at hf;refine aR (aa:=[_]) hf rfl rfl rfl ?_;clear hf hb0;have oc:=hd.X5;simp at hx fu;simp[-ay,iL,hx,g3,fu,oc]
 .rintro⟨i,d,rest⟩ ⟨hi,hd⟩;dsimp only at hi hd|-;rcases fA i (O (els bs)) with hlt |kH
  .have hm:=dw hlt;have c1:=ajR (els bs)[i].lo.ar (els bs)[i].up.ar (els bs)[i].lo.tu (els bs)[i].up.tu;have hg:=ajS (els bs)[i].lo.ar (els bs)[i].up.ar (els bs)[i].lo.tu (els bs)[i].up.tu (hs _ hm) (by have:=hu _ hm;omega) (by have:=hu _ hm;omega);have aS:=pz hlt;have gQ:bu 0 ((els bs).take (i+1))=bu 0 ((els bs).take i)++(Kk (els (els bs)[i].up.tu) (els (els bs)[i].lo.tu)).map λt=>((i:Int),t):=by
    rw[C2 hlt,PA,kY,x9 hi,ez];rfl
   have jy:O (Kk (els (els bs)[i].up.tu) (els (els bs)[i].lo.tu))<=900:=fW (C3 _ _) (hu _ hm).1;have rQ:O (bu 0 ((els bs).take i))<=1000*900-900:=by
    have h1:=xA ((els bs).take i) 0 900 λb hb=>(hu b (jn hb)).1;rw[kY,x9 hi] at h1;have h5:i*900<=999*900:=ju 900 (by omega);omega
   have gi:=bt (k:=i) (by omega);have cO:=hd.one
   suffices h:post (λo e H=>o= .norm/\e.keep [3,7,8,9]=Env.keep [3,7,8,9] [(3,.box 0 0),(7,.p (cM bs)),(8,.p (.int .i64 ((O (els bs):Nat):Int))),(9,.p (.int .i64 ((i+1 :Nat):Int)))]/\∃d rest,H=⟨[d]::rest,[]⟩/\Gr 112 2 1 ((bu 0 ((els bs).take (i+1))).map gy) d rest)
       (aq (call pg) pg.G aM (bd zC 0) ⟨Env.keep [3,7,8,9] [(3,.box 0 0),(7,.p (cM bs)),(8,.p (.int .i64 ((O (els bs):Nat):Int))),(9,.p (.int .i64 ((i:Nat):Int)))],⟨[d]::rest,[]⟩⟩) by
    refine aG h ?_;rintro o e H ⟨rfl,he,d,rest,rfl,hg⟩;exact .inl ⟨(i+1,d,rest),⟨hlt,hg⟩,by dsimp only;omega,rfl,rfl,he⟩
   rw[gQ,oJ,pO];generalize hG:bu 0 ((els bs).take i)=F at *;generalize hO:Kk (els (els bs)[i].up.tu) (els (els bs)[i].lo.tu)=L at *;have hgo:=hG;clear hgo hG hO gQ;generalize (els bs)[i]=b at *
   conv in bd zC 0=>reduce
   simp[aS,hlt,c1,hg];refine ajQ (λj H=>∃d' rest',H=⟨[d']::rest',[]⟩/\Gr 112 2 1 (F.map gy++(L.take j).map (gy∘λt=>((i:Int),t))) d' rest'/\rest'[O rest]? =Z [.p (.int .i64 i)]) ?_ ?_ ?_
   .refine⟨d,_,rfl,?_,?_⟩
    .have:=(hd.ext [.int .i64 i]).ext [.int .i64 b.lo.ar,ax b.lo.tu,.int .i64 b.up.ar,ax b.up.tu];simpa using this
    .rw[ajU]
   .rintro j x H iz ⟨d',rest',rfl,bO,hk⟩;rw[cG] at iz;cases ht:L[j]? with
    |none=>rw[ht] at iz;cases iz
    |some t=>
     rw[ht] at iz;cases iz;refine⟨rfl,?_⟩;have hj:=(af.1 ht).1;have e1:=(af.1 ht).2;have hne:O (F.map gy++(L.take j).map (gy∘λt=>((i:Int),t)))<1000000:=by
      rw[gG,bT,bT,kY];omega
     obtain⟨d2,PU,hap,gp,hk2⟩:=bO.ajO (by':=16) hne (by omega) (by omega) [[d']] rfl [] (ajT ((i:Int),t));have hk3:=hk2 _ _ hk (by simp only[AA];omega);have g1:=bO.one;have g2:=gp.one;have g3:=gp.cells;have g4:=bO.X5;have e2:F.map gy++(L.take (j+1)).map (gy∘λt=>((i:Int),t))=(F.map gy++(L.take j).map (gy∘λt=>((i:Int),t)))++[gy ((i:Int),t)]:=by
      rw[C2 hj,e1,oJ,<-j2];rfl
     rw[e2];generalize F.map gy++(L.take j).map (gy∘λt=>((i:Int),t))=E at *;simp[gy,xm] at hap gp;simp[-ay,mC,gX,nX,D.ai,D.refs,ins,p9,xC,hap,g2,g3,g4,hk,im1,gy];exact⟨_,_,⟨rfl,rfl⟩,gp,hk3⟩
   .rintro H ⟨d',rest',rfl,bO,hk⟩;rw[bT,lQ] at bO;simp[gi];exact⟨_,_,⟨rfl,rfl⟩,bO⟩
  .have hi':i=O (els bs):=by omega
   subst hi';rw[lQ] at hd;refine aG (Q:=λo e H=>o= .exit 0/\e.get 3= .box 0 0/\H=⟨[d]::rest,[]⟩) ?_ λo e H hh=>.inr ?_
   .skip
    conv in bd zC 0=>reduce
    simp
   .obtain⟨rfl,h2,rfl⟩:=hh;exact⟨by simp,rfl,h2,d,rest,rfl,hd⟩
variable {so f3 f4 : PD} {fi : Sl Fi} {a : Sl Int} {bs : Sl Bn} {st : Int}
def dL(so f3 f4:PD)(fi:Sl Fi)(a:Sl Int)(st:Int)(bs:Sl Bn)(K:Sl (Int×Int)):List PD:=[ax a,.int .i64 st,so,fT fi,f3,f4,cM bs,pB K]
theorem X7(o1:so.one=true)(o3:f3.one=true)(o4:f4.one=true)(hl:O (els bs)<=1000)(hu:∀b∈els bs,O (els b.up.tu)<=900/\O (els b.lo.tu)<=900)(hs:∀b∈els bs,dn (els b.lo.tu)):
    ∀H,au (call pg) 55 [.p (.agg [so,fT fi,f3,f4]),.p (.agg [ax a,.int .i64 st]),.p (cM bs)] H=Z (.val (.ro (dL so f3 f4 fi a st bs (fU (bu 0 (els bs)))) 0),H):=by
 have c1:=ajV bs hl hu hs;generalize fU (bu 0 (els bs))=K at *;have hf:=rf a55
 conv at hf=>rhs;reduce
 refine aR (aa:=[_,_,_]) hf rfl rfl rfl ?_;clear hf;simp[c1,o1,o3,o4];simp[fin,D.av,ay,D.j6,D.eZ,D.ren,dL]
theorem X8(st:Int):((bF st:Nat):Int)=if 1<st then st else 0:=by
 unfold bF;split<;>omega
theorem X9(_:so.one=true)(K:Sl (Int×Int)):∀H,au (call pg) 75 [.ro (dL so f3 f4 fi a st bs K) 0] H=Z (.val (.p (.int .i64 ((bF st:Nat):Int))),H):=by
 rw[X8];unfold dL;have hf:=rf a75
 conv at hf=>rhs;reduce
 refine zQ hf rfl rfl rfl rfl rfl rfl ?_;clear hf;by_cases h:1<st
 .simp[h]
 .simp[h]
theorem ajW(l:List Fi):aH varOf (l.map Fi.p)=Z (l.map Fi.va):=by
 induction l with
 |nil=>rfl
 |cons a r ih=>simp[aH,varOf,Fi.p,ih]
theorem ajX(f:Sl Fi):varsOf (fT f)=Z ((els f).map Fi.va):=by
 cases f with
 |nil=>rfl
 |of l=>
  cases l with
  |nil=>rfl
  |cons x r=>simpa[fT,eh,varsOf,Sl.map,els] using ajW (x::r)
 |cJ=>rfl
theorem ajY(l:List (Int×Int)):aH IZ (l.map gy)=Z l:=by
 induction l with
 |nil=>rfl
 |cons a r ih=>simp[aH,IZ,gy,ih]
theorem ajZ(f:Sl (Int×Int)):Eu (pB f)=Z (els f):=by
 cases f with
 |nil=>rfl
 |of l=>
  cases l with
  |nil=>rfl
  |cons x r=>simpa[pB,eh,Eu,Sl.map,els] using ajY (x::r)
 |cJ=>rfl
theorem P0(vs:List Bool)(s:Nat):∀(l:List (Int×Int)) (v:Nat),O (jg vs s l v)<=O l
 |[],_=>by simp[jg]
 |(a,b)::r,v=>by
  simp only[jg];split
  .have:=P0 vs s r v;simp only[ew];omega
  .have:=P0 vs s r (v+1);simp only[ew];omega
theorem FK(vs:List Bool)(free:List (Int×Int)):∀(n s v:Nat),O (gC vs free n s v)<=n*O free
 | 0,_,_=>by simp[gC]
 |n+1,s,v=>by
  have h1:=P0 vs s free v;have h2:=FK vs free n (s+1) (v+O (jg vs s free v));simp only[gC,gG,fX];omega
theorem P1(vs:List Bool)(s:Nat):∀(l:List (Int×Int)) (v j:Nat) e,(jg vs s l v)[j]? =Z e->e.1=v+j+1
 |[],_,_,_,h=>by simp[jg] at h
 |(a,b)::r,v,j,e,h=>by
  simp only[jg] at h;split at h
  .exact P1 vs s r v j e h
  .cases j with
   |zero=>cases h;rfl
   |succ j=>have:=P1 vs s r (v+1) j e h;omega
theorem Cs(vs:List Bool)(free:List (Int×Int)):∀(n s v j:Nat) e,(gC vs free n s v)[j]? =Z e->e.1=v+j+1
 | 0,_,_,_,_,h=>by simp[gC] at h
 |n+1,s,v,j,e,h=>by
  simp only[gC] at h;rcases fA j (O (jg vs s free v)) with hj |hj
  .rw[aT hj] at h;exact P1 vs s free v j e h
  .rw[cR hj] at h;have:=Cs vs free n (s+1) _ _ e h;omega
abbrev cz(fi:List Fi)(bs:List Bn)(st:Int):List (Nat×Nat×Int×Int):=gC (fi.map Fi.va) (bu 0 bs) st.toNat 0 (bF st)
theorem xF:∀(l:List Bn) (i:Nat),∀p∈bu i l,∃j:Nat,p.1=(j:Int)/\i<=j/\j<i+O l
 |[],i,p,h=>by simp[bu] at h
 |b::r,i,p,h=>by
  simp only[bu,cx] at h;rcases h with h |h
  .unfold mO at h;obtain⟨t,_,rfl⟩:=cA.1 h;exact⟨i,rfl,aK _,by simp⟩
  .obtain⟨j,h1,h2,h3⟩:=xF r (i+1) p h;exact⟨j,h1,by omega,by simp only[ew];omega⟩
theorem P2(hst:st<=4)(hbl:O (els bs)=O (els fi))(hl:O (els bs)<=1000)(hu:∀b∈els bs,O (els b.up.tu)<=900)(H:Hp):
    nA [.ro (dL so f3 f4 fi a st bs (fU (bu 0 (els bs)))) 0] [] H=Z ((cz (els fi) (els bs) st).map qU):=by
 have rQ:O (bu 0 (els bs))<=1000*900:=by
  have h1:=xA (els bs) 0 900 hu;have h5:O (els bs)*900<=1000*900:=ju 900 hl;omega
 have h3:(bu 0 (els bs)).all (λp=>decide (0<=p.1/\p.1<(O ((els fi).map Fi.va):Int)))=true:=by
  rw[gV];intro p hp;obtain⟨j,h1,h2,h3⟩:=xF _ _ _ hp;rw[bT];exact decide_eq_true ⟨by omega,by omega⟩
 have h4:bF st+O (gC ((els fi).map Fi.va) (bu 0 (els bs)) st.toNat 0 (bF st))<4611686018427387904:=by
  have h1:=FK ((els fi).map Fi.va) (bu 0 (els bs)) st.toNat 0 (bF st);have h2:st.toNat*O (bu 0 (els bs))<=4*(1000*900):=ud (by omega) rQ;have h5:bF st<=4:=by unfold bF;split<;>omega
  omega
 unfold nA dL;simp only[ajX,ajZ,Xw];rw[if_pos ⟨by omega,by omega,h3,h4⟩]

def mj(fi:List Fi)(bs:List Bn)(st:Int):Nat:=bF st+O (cz fi bs st)
theorem aj0(o1:so.one=true)(hst:st<=4)(hbl:O (els bs)=O (els fi))(hl:O (els bs)<=1000)(hu:∀b∈els bs,O (els b.up.tu)<=900):
    ∀H,au (call pg) 56 [.ro (dL so f3 f4 fi a st bs (fU (bu 0 (els bs)))) 0] H=Z (.val (.p (.int .i64 ((mj (els fi) (els bs) st:Nat):Int))),H):=by
 have c1:=X9 (f3:=f3) (f4:=f4) (fi:=fi) (a:=a) (st:=st) (bs:=bs) o1 (fU (bu 0 (els bs)));have hg:=P2 (so:=so) (f3:=f3) (f4:=f4) (a:=a) hst hbl hl hu;have hv:∀(j:Nat) e,(cz (els fi) (els bs) st)[j]? =Z e->e.1=bF st+j+1:=Cs ((els fi).map Fi.va) (bu 0 (els bs)) st.toNat 0 (bF st);unfold mj;generalize dL so f3 f4 fi a st bs (fU (bu 0 (els bs)))=C at *;generalize cz (els fi) (els bs) st=L at *;generalize bF st=v0 at *;have hf:=rf Vf
 conv at hf=>rhs;reduce
 refine zQ hf rfl rfl rfl rfl rfl rfl ?_;clear hf;simp[c1,hg];refine aiA (λj H=>∃rest,H=⟨[.p (.int .i64 ((v0+j:Nat):Int))]::rest,[]⟩) ⟨[],rfl⟩ ?_ ?_
 .rintro j x H iz ⟨rest,rfl⟩;rw[cG] at iz;cases ht:L[j]? with
  |none=>rw[ht] at iz;cases iz
  |some e=>
   rw[ht] at iz;cases iz;refine⟨rfl,?_⟩;have he:=hv j e ht;obtain⟨e1,e2,e3,e4⟩:=e;dsimp only at he;subst he;simp[qU,mC,nX,D.ai,D.refs,ins,p9,xC,Int.add_assoc]
 .rintro H ⟨rest,rfl⟩;rw[bT];simp

end Go.Proofs.YtgplgbonlnodeaaGreatDoor

namespace Go.Proofs.YtgplgbonlnodeaaGreatDoor
attribute [local irreducible] pw nz nA jt
theorem tQ(cs:List PD)(o:Nat):ay [.ro cs o]=false:=rfl
def qh(bs:List Bool)(k f:Nat)(r:Int):Nat->fV->fV
 | 0,S=>S
 |n+1,S=>nH bs k (n+1) f r (qh bs k f r n S)
structure Fl (H:Hp) (lab:Nat->ep) (c v m n2:Nat) (at_:D) (al:List Int) (bs:Sl Bool) (st lp:Int) (C:List PD) (S:fV):Prop where
 w:Wk H lab c v m at_ al bs st lp S
 b2:H.bx[n2]? =Z [.ro C 0]
 l2:lab n2= .none
 b3:H.bx[n2+1]? =Z [.fn 76 [] [.box c 0,.box m 0]]
 l3:lab (n2+1)= .none
 tk:H.tk=[]
variable{at_:D}{H:Hp}{st lp sst:Int}{al:List Int}{S0:fV}{v m:Nat}{dz:Nat->ep}{so f3 f4:PD}{bb:Sl Bn}{bs:Sl Bool}{fi:Sl Fi}{a:Sl Int}
theorem aj1{c n2 n4:Nat}{K:Sl (Int×Int)}{k f:Nat}{r:Int}{x:PD}(eU:O (els bs)<4611686018427387904)(hk:k<4611686018427387904)(hst:1<=sst/\sst<=4)
    (bV:∀n:Nat,((n+1 :Nat):Int)<sst->Kj (n+1) f (qh (els bs) k f r n S0)) {H0:Hp}  (w0:Fl H0 dz c v m n2 at_ al bs st lp (dL so f3 f4 fi a sst bb K) S0) (h4:H0.bx[n4]? =Z [.p (.int .i64 ((k+1 :Nat):Int)),.p x,.p (.int .i64 ((f:Nat):Int)),.p (.int .i64 r)]) (P3:dz n4= .none) (nG:O H0.bx<900000000) (_:x.one=true):
    post (λo _ H'=>o= .exit 2/\O H0.bx<=O H'.bx/\O H'.bx<=O H0.bx+12/\∃bh,(∀j,j<O H0.bx->bh j=dz j)/\Fl H' bh c v m n2 at_ al bs st lp (dL so f3 f4 fi a sst bb K) (qh (els bs) k f r (sst.toNat-1) S0)) (dB (call pg) pg.G [2,3,4,5] (bd a59 0) ⟨[(2,.box n2 0),(3,.box (n2+1) 0),(4,.box n4 0),(5,.p (.int .i64 1))],H0⟩):=by
 refine dT (c:=call pg) (G:=pg.G) (σ:=Nat×Hp) (λs=>[(2,.box n2 0),(3,.box (n2+1) 0),(4,.box n4 0),(5,.p (.int .i64 ((s.1+1 :Nat):Int)))]) (λs=>s.2) (λs=>4-s.1)
  (λs=>((s.1+1 :Nat):Int)<=sst/\O H0.bx<=O s.2.bx/\O s.2.bx<=O H0.bx+3*s.1/\s.2.bx[n4]? =Z [.p (.int .i64 ((k+1 :Nat):Int)),.p x,.p (.int .i64 ((f:Nat):Int)),.p (.int .i64 r)]/\∃bh,(∀j,j<O H0.bx->bh j=dz j)/\Fl s.2 bh c v m n2 at_ al bs st lp (dL so f3 f4 fi a sst bb K) (qh (els bs) k f r s.1 S0)) _ ?_ (0,H0) ⟨by simpa using hst.1,by simp,by simp,h4,dz,λ_ _=>rfl,w0⟩
 have P4:=(af.1 h4).1;rintro⟨n,H⟩ ⟨i1,i0,i2,i4,lab,qi,w⟩;dsimp only at i1 i0 i2 i4 w|-;have l4:lab n4= .none:=(qi _ P4).trans P3;have hc:=(af.1 w.w.cc).1;have hm:m<O H.bx:=w.w.lt (by rw[w.w.mod.1];simp);have hb2:=w.b2;have hb3:=w.b3;have eu:=(af.1 hb2).1;have dU:=(af.1 hb3).1;have qj:=(af.1 i4).1;have aO:=w.tk;by_cases hlt:((n+1 :Nat):Int)<sst
 .obtain⟨H2,lab2,xG,w2,q1,q2,q3,q4,q5⟩:=XF w.w (k:=k) (s:=n+1) (f:=f) (r:=r) eU hk (bV n hlt) (by omega);obtain⟨H3,eG,hloc,y2,y3,y4,y5,y6,y7⟩:=w2.loc (nb:=O H.bx) q2 hc hm (q1.trans aO) .norm (λ_ _=>rfl);obtain⟨e3,y1,y8⟩:=hloc [(2,.box n2 0),(3,.box (n2+1) 0),(4,.box n4 0),(5,.p (.int .i64 ((n+1+1 :Nat):Int)))];have inc:=bt (k:=n+1) (by omega);refine aG (Q:=λo e H'=>o= .norm/\H'=H3/\e=e3) ?_ λo e H' hh=>.inl ?_
  .generalize ((k+1 :Nat):Int)=k1 at *;generalize ((n+1+1 :Nat):Int)=n5 at *;generalize ((n+1 :Nat):Int)=n1 at *;unfold dL at hb2 hb3
   conv in bd a59 0=>reduce
   simp[-bX,-ay,fw,sF,tQ,hb2,hb3,aO,i4,hlt,xG,inc,y1]
  .obtain⟨rfl,rfl,rfl⟩:=hh;refine⟨(n+1,H'),⟨by dsimp only;omega,by dsimp only;omega,by dsimp only;omega,?_,eG,?_,?_⟩,by dsimp only;omega,rfl,rfl,?_⟩
   .dsimp only;rw[y7 _ qj,q5 _ qj l4,i4]
   .intro j hj;rw[y6 _ (by omega),q4 _ (by omega)];exact qi j hj
   .exact⟨y2,by rw[y7 _ eu,q5 _ eu w.l2,hb2],by rw[y6 _ eu,q4 _ eu,w.l2],by rw[y7 _ dU,q5 _ dU w.l3,hb3],by rw[y6 _ dU,q4 _ dU,w.l3],y3⟩
   .rcases y8 with rfl |rfl
    .rfl
    .generalize ((n+1+1 :Nat):Int)=n5;simp[Env.keep,Env.get,D.ren,below,eu,dU,qj]
 .have hn:n=sst.toNat-1:=by omega
  obtain⟨H3,eG,hloc,y2,y3,y4,y5,y6,y7⟩:=w.w.loc (nb:=O H.bx) (aK _) hc hm aO (.exit 2) (λ_ _=>rfl);obtain⟨e3,y1,y8⟩:=hloc [(2,.box n2 0),(3,.box (n2+1) 0),(4,.box n4 0),(5,.p (.int .i64 ((n+1 :Nat):Int))),(33,.p (.bool false))];refine aG (Q:=λo e H'=>o= .exit 2/\H'=H3) ?_ λo e H' hh=>.inr ?_
  .generalize ((n+1 :Nat):Int)=n1 at *;unfold dL at hb2 hb3
   conv in bd a59 0=>reduce
   simp[-bX,-ay,tQ,hb2,aO,hlt,y1]
  .obtain⟨rfl,rfl⟩:=hh;refine⟨by simp,rfl,by omega,by omega,eG,λj hj=>(y6 _ (by omega)).trans (qi j hj),?_⟩;rw[<-hn];exact⟨y2,by rw[y7 _ eu,hb2],by rw[y6 _ eu,w.l2],by rw[y7 _ dU,hb3],by rw[y6 _ dU,w.l3],y3⟩
def aj2(x:Sl Rl)(f:Nat):List Int:=match(els x)[f]? with |some r=>els r.tu |none=>[]
def bits(L:List (Int×Int))(x:Sl Rl):List Bool:=L.map λp=>decide (p.2∈aj2 x p.1.toNat)
structure arR (L:List (Int×Int)) (ss:List (Sl Rl)):Prop where
 ix:∀x∈ss,∀p∈L,∃j:Nat,p.1=(j:Int)/\j<O (els x)
 ln:∀x∈ss,∀r∈els x,O (els r.tu)<4611686018427387904
 sr:∀x∈ss,∀r∈els x,dn (els r.tu)
@[simp] theorem ae0(i o n sz:Nat)(c:Option Nat):(D.bH i o n c sz).one=true:=rfl
theorem Ky(vs:List Bool)(s:Nat):∀(l:List (Int×Int)) (v:Nat) e,e∈jg vs s l v->e.2.1=s/\(e.2.2.1,e.2.2.2)∈l
 |[],_,_,h=>by simp[jg] at h
 |(a,b)::r,v,e,h=>by
  simp only[jg] at h;split at h
  .have:=Ky vs s r v e h;exact⟨this.1,kA _ this.2⟩
  .rcases cq.1 h with rfl |h
   .exact⟨rfl,rD⟩
   .have:=Ky vs s r (v+1) e h;exact⟨this.1,kA _ this.2⟩
theorem xH(vs:List Bool)(free:List (Int×Int)):∀(n s v:Nat) e,e∈gC vs free n s v->s<=e.2.1/\e.2.1<s+n/\(e.2.2.1,e.2.2.2)∈free
 | 0,_,_,_,h=>by simp[gC] at h
 |n+1,s,v,e,h=>by
  simp only[gC,cx] at h;rcases h with h |h
  .have:=Ky vs s free v e h;exact⟨by omega,by omega,this.2⟩
  .have:=xH vs free n (s+1) _ e h;exact⟨by omega,by omega,this.2.2⟩
theorem Ya(cs:List PD)(o:Nat):(D.ro cs o).cells=[.ro cs o]:=rfl
theorem Yb(cs:List PD)(o:Nat):(D.ro cs o).one=true:=rfl
theorem Kz(f:Nat)(a c:List D):(D.fn f a c).one=true:=rfl
theorem Yc{c:br}{G:Nat->Option (List PD)}{Q:Out->Env->Hp->Prop}{xs:List (List D)}{fe b:SC}{env:Env}{ps:List Nat}{kb:Hp->Bool}{kk:Nat}(I:Nat->Hp->Prop)(h0:I 0 H)
    (h:∀i x H,xs[i]? =Z x->I i H->O x=O ps/\post (λo e H1=>o= .norm/\post (λo _ H2=>o= .norm/\kb H2=true/\I (i+1) H2) (aq c G aM b ⟨e,H1⟩)) (aq c G aM fe ⟨mC env ps x,H⟩))
    (hq:∀H',I (O xs) H'->Q .norm env H'):post Q (sf kk (y9 c G (Z xs) fe b env ps kb H)):=by
 obtain⟨H',h1,h2⟩:=Kl (kb:=kb) I xs 0 H h0 λi x H hx hI=>by simpa using h i x H hx (by simpa using hI)
 rw[ez] at h2;have h3:y9 c G (Z xs) fe b env ps kb H=Z (.norm,⟨env,H'⟩):=h1;rw[h3];exact hq H' h2
def kV(bs:List Bool)(vs:List Bool)(st:Int)(S:fV)(e:Nat×Nat×Int×Int):fV:=
 if 0<e.2.1\/vs.getD e.2.2.1.toNat false=true then nH bs (e.1-1) e.2.1 e.2.2.1.toNat e.2.2.2 S
 else qh bs (e.1-1) e.2.2.1.toNat e.2.2.2 (st.toNat-1) (nH bs (e.1-1) e.2.1 e.2.2.1.toNat e.2.2.2 S)
def Yd(bs:List Bool)(vs:List Bool)(st:Int)(S:fV)(e:Nat×Nat×Int×Int):Prop:=
 Kj e.2.1 e.2.2.1.toNat S/\(¬(0<e.2.1\/vs.getD e.2.2.1.toNat false=true)->∀n:Nat,((n+1 :Nat):Int)<st->Kj (n+1) e.2.2.1.toNat (qh bs (e.1-1) e.2.2.1.toNat e.2.2.2 n (nH bs (e.1-1) e.2.1 e.2.2.1.toNat e.2.2.2 S)))
theorem Wk.Cp{lab:Nat->ep}{c:Nat}{S:fV}(w:Wk H lab c v m at_ al bs st lp S)(t:List Nat):Wk ⟨H.bx,t⟩ lab c v m at_ al bs st lp S:=
 ⟨w.mod.ext λ_ _ h=>h,w.ats.other λ_ _=>rfl,w.mP,w.cc,w.cl,w.vv,w.vl,w.rf,w.tk,w.fr⟩
theorem aj3{c:Nat}(eU:O (els bs)<4611686018427387904)(hst:1<=sst/\sst<=4)
    (hbl:O (els bb)=O (els fi)) (hl:O (els bb)<=1000) (hu:∀b∈els bb,O (els b.up.tu)<=900)
    (bV:∀(j:Nat) e,(cz (els fi) (els bb) sst)[j]? =Z e->Yd (els bs) ((els fi).map Fi.va) sst (((cz (els fi) (els bb) sst).take j).foldl (kV (els bs) ((els fi).map Fi.va) sst) S0) e)
      (w:Wk H dz c v m at_ al bs st lp S0) (aO:H.tk=[]) (nG:O H.bx<100000000):
    ∃Hs di,call pg 59 [.ro (dL so f3 f4 fi a sst bb (fU (bu 0 (els bb)))) 0,.fn 76 [] [.box c 0,.box m 0]] H=Z (.val .undef,Hs)/\
     Wk Hs di c v m at_ al bs st lp ((cz (els fi) (els bb) sst).foldl (kV (els bs) ((els fi).map Fi.va) sst) S0)/\O H.bx<=O Hs.bx/\O Hs.bx<=O H.bx+100000000/\∀j,j<O H.bx->di j=dz j:=by
 have hg:=P2 (so:=so) (f3:=f3) (f4:=f4) (a:=a) hst.2 hbl hl hu;have hv:∀(j:Nat) e,(cz (els fi) (els bb) sst)[j]? =Z e->e.1=bF sst+j+1:=Cs ((els fi).map Fi.va) (bu 0 (els bb)) sst.toNat 0 (bF sst);have eV:∀e∈cz (els fi) (els bb) sst,e.2.1<sst.toNat/\∃k:Nat,e.2.2.1=(k:Int)/\k<O (els fi):=λe he=>by
  obtain⟨_,h2,h3⟩:=xH _ _ _ _ _ e he;obtain⟨k,h4,_,h5⟩:=xF _ _ _ h3;exact⟨by omega,k,h4,by omega⟩
 have hLl:O (cz (els fi) (els bb) sst)<=4*(1000*900):=by
  have rQ:O (bu 0 (els bb))<=1000*900:=by
   have h1:=xA (els bb) 0 900 hu;have h5:O (els bb)*900<=1000*900:=ju 900 hl;omega
  have h1:=FK ((els fi).map Fi.va) (bu 0 (els bb)) sst.toNat 0 (bF sst);have h2:sst.toNat*O (bu 0 (els bb))<=4*(1000*900):=ud (by omega) rQ;exact fW h1 h2
 have hN4:bF sst<=4:=by unfold bF;split<;>omega
 have w1:=w.snoc [.ro (dL so f3 f4 fi a sst bb (fU (bu 0 (els bb)))) 0] (by simp[D.ai,D.refs]) rfl H.tk;have w2:=w1.snoc [.fn 76 [] [.box c 0,.box m 0]] (by
  intro x hx;have :x=c\/x=m:=by simpa[D.ai,D.refs] using hx
  rcases this with rfl |rfl
  .rw[w.cl];simp
  .rw[w.mod.1];simp) rfl H.tk
 have hF:Fl ⟨H.bx++[[.ro (dL so f3 f4 fi a sst bb (fU (bu 0 (els bb)))) 0]]++[[.fn 76 [] [.box c 0,.box m 0]]],H.tk⟩ dz c v m (O H.bx) at_ al bs st lp (dL so f3 f4 fi a sst bb (fU (bu 0 (els bb)))) S0:=
  ⟨w2,by simp,w.fr _ (aK _),by simp,w.fr _ (by omega),aO⟩
 generalize hN:O H.bx=N at *;generalize fU (bu 0 (els bb))=K at *;generalize cz (els fi) (els bb) sst=L at *;have hb0:=rf (bd a59 0)
 conv at hb0=>rhs;reduce
 have hf:=rf a59
 conv at hf=>rhs;reduce
 rw[<-hb0] at hf;obtain⟨Hs,h1,di,h2⟩:=Cj (f:=59) (y:=.undef) (H:=H) (Q:=λHs=>∃di,Wk Hs di c v m at_ al bs st lp (L.foldl (kV (els bs) ((els fi).map Fi.va) sst) S0)/\N<=O Hs.bx/\O Hs.bx<=N+100000000/\∀j,j<N->di j=dz j) (aa:=[.ro (dL so f3 f4 fi a sst bb K) 0,.fn 76 [] [.box c 0,.box m 0]]) hf rfl rfl rfl rfl (by
  clear hf hb0;simp[-bX,-ay,tQ,Ya,Yb,Kz,aO,hN,hg];refine Yc (λj H'=>O H'.bx<=N+2+20*j/\N+2<=O H'.bx/\∃lab,(∀i,i<N->lab i=dz i)/\Fl H' lab c v m N at_ al bs st lp (dL so f3 f4 fi a sst bb K) ((L.take j).foldl (kV (els bs) ((els fi).map Fi.va) sst) S0)) ⟨by simp[hN],by simp[hN],dz,λ_ _=>rfl,by simpa[aO] using hF⟩ ?_ ?_
  .rintro j x H iz ⟨i1,i2,lab,i3,w⟩;rw[cG] at iz;cases ht:L[j]? with
   |none=>rw[ht] at iz;cases iz
   |some e=>
    rw[ht] at iz;cases iz;refine⟨rfl,?_⟩;have hj:=(af.1 ht).1;have he:=hv j e ht;obtain⟨hs1,k,eF,hk2⟩:=eV e (bB ht);obtain⟨xE,vK⟩:=bV j e ht;have hS:(L.take (j+1)).foldl (kV (els bs) ((els fi).map Fi.va) sst) S0=kV (els bs) ((els fi).map Fi.va) sst ((L.take j).foldl (kV (els bs) ((els fi).map Fi.va) sst) S0) e:=by
     rw[ub,ht,Option.toList_some,List.foldl_append,tU,List.foldl_nil]
    rw[hS];generalize (L.take j).foldl (kV (els bs) ((els fi).map Fi.va) sst) S0=S at *;obtain⟨e1,s,e3,r⟩:=e;dsimp only at he hs1 eF hk2 xE vK;subst he eF;simp only[sQ] at xE vK;have aS:=py hk2;have z8:((els fi).map Fi.va).getD k false=(els fi)[k].va:=by simp[im,hk2]
    unfold kV;dsimp only;rw[show bF sst+j+1-1=bF sst+j by omega] at vK|-;rw[sQ];have hkb:bF sst+j<4611686018427387904:=by omega
    generalize hk:bF sst+j=kv at *;have wa:=w.w.snoc [.p (.int .i64 ((kv+1 :Nat):Int)),.p (.int .i64 ((s:Nat):Int)),.p (.int .i64 ((k:Nat):Int)),.p (.int .i64 r)] (by simp[D.ai,D.refs]) rfl H.tk;obtain⟨H2,lab2,xG,w2,q1,q2,q3,q4,q5⟩:=XF wa (k:=kv) (s:=s) (f:=k) (r:=r) eU hkb xE (by simp;omega);have hb2:=w.b2;have hb3:=w.b3;have ql:=w.tk;have n2l:=(af.1 hb2).1;have P5:=(af.1 hb3).1;have FL:∀(i:Nat) cs,H.bx[i]? =Z cs->lab i= .none->H2.bx[i]? =Z cs/\lab2 i= .none:=λi cs h1 h2=>by
     have hl:=(af.1 h1).1;refine⟨?_,by rw[q4 i (by simp;omega),h2]⟩;rw[q5 i (by simp;omega) h2];dsimp only;rw[aT hl,h1]
    have h4:H2.bx[O H.bx]? =Z [.p (.int .i64 ((kv+1 :Nat):Int)),.p (.int .i64 ((s:Nat):Int)),.p (.int .i64 ((k:Nat):Int)),.p (.int .i64 r)]/\lab2 (O H.bx)= .none:=by
     refine⟨?_,by rw[q4 _ (by simp)];exact w.w.fr _ (aK _)⟩;rw[q5 _ (by simp) (w.w.fr _ (aK _))];simp
    have kz:=FL _ _ hb2 w.l2;have vL:=FL _ _ hb3 w.l3;have hF2:Fl H2 lab2 c v m N at_ al bs st lp (dL so f3 f4 fi a sst bb K) (nH (els bs) kv s k r S):=⟨w2,kz.1,kz.2,vL.1,vL.2,q1.trans ql⟩;have dG:=(af.1 w.w.cc).1;have hap:∀cs:List D,(H.bx++[cs])[N+1]? =Z [.fn 76 [] [.box c 0,.box m 0]]:=λcs=>by rw[aT P5,hb3]
    rw[ql] at xG;have dN:m<O H.bx:=w.w.lt (by rw[w.w.mod.1];simp);simp only[gG,ew,fH] at q2 q3 q4;by_cases hcnd:0<s\/(els fi)[k].va=true
    .rw[if_pos (by rw[z8];exact hcnd)];obtain⟨H3,eG,hloc,y2,y3,y4,y5,y6,y7⟩:=w2.loc (nb:=O H.bx+1) q2 (by omega) (by omega) (q1.trans ql) .norm (λ_ _=>rfl);have hI:O H3.bx<=N+2+20*(j+1)/\N+2<=O H3.bx/\∃lab,(∀i,i<N->lab i=dz i)/\Fl H3 lab c v m N at_ al bs st lp (dL so f3 f4 fi a sst bb K) (nH (els bs) kv s k r S):=
      ⟨by omega,by omega,eG,λi hi=>by rw[y6 i (by omega),q4 i (by omega),i3 i hi],y2,by rw[y7 _ (by omega),kz.1],by rw[y6 _ (by omega),kz.2],by rw[y7 _ (by omega),vL.1],by rw[y6 _ (by omega),vL.2],y3⟩
     generalize nH (els bs) kv s k r S=S1 at *;generalize eF:((kv+1 :Nat):Int)=k1 at *;by_cases hs0:0<s
     .have Ck:(0 :Int)<((s:Nat):Int):=by omega
      unfold dL at hb2 kz;simp[-bX,-ay,fw,sF,qU,mC,nX,D.ai,D.refs,ins,p9,xC,ql,eF,hs0,hap,xG,h4.1];exact PL hloc λ_=>⟨rfl,hI⟩
     .have hs1:s=0:=by omega
      subst hs1;have Aa:(els fi)[k].va=true:=hcnd.resolve_left (by omega);have sH:=h4.1;simp only[gH] at xG sH;unfold dL at hb2 kz;simp[-bX,-ay,fw,sF,tQ,qU,mC,nX,D.ai,D.refs,ins,p9,xC,ql,eF,zV,hap,kz.1,xG,sH,aS,Aa];exact PL hloc λ_=>⟨rfl,hI⟩
    .rw[if_neg (by rw[z8];exact hcnd)];have hs1:s=0:=by omega
     subst hs1;have Aa:(els fi)[k].va=false:=by
      cases hh:(els fi)[k].va with
      |false=>rfl
      |true=>exact absurd (.inr hh) hcnd
     have je:=aj1 (n4:=O H.bx) (x:=.int .i64 ((0 :Nat):Int)) (k:=kv) (f:=k) (r:=r) (so:=so) (f3:=f3) (f4:=f4) (fi:=fi) (a:=a) (bb:=bb) (K:=K) eU hkb hst (vK (by rw[z8];exact hcnd)) hF2 h4.1 h4.2 (by omega) rfl;obtain⟨o5,e5,H5,P6,rfl,g1,g2,aj7,g3,oD⟩:=bC je;obtain⟨H3,eG,hloc,y2,y3,y4,y5,y6,y7⟩:=oD.w.loc (nb:=O H.bx+1) (by omega) (by omega) (by omega) oD.tk .norm (λ_ _=>rfl);have hI:O H3.bx<=N+2+20*(j+1)/\N+2<=O H3.bx/\∃lab,(∀i,i<N->lab i=dz i)/\Fl H3 lab c v m N at_ al bs st lp (dL so f3 f4 fi a sst bb K) (qh (els bs) kv k r (sst.toNat-1) (nH (els bs) kv 0 k r S)):=
      ⟨by omega,by omega,eG,λi hi=>by rw[y6 i (by omega),g3 i (by omega),q4 i (by omega),i3 i hi],y2,by rw[y7 _ (by omega),oD.b2],by rw[y6 _ (by omega),oD.l2],by rw[y7 _ (by omega),oD.b3],by rw[y6 _ (by omega),oD.l3],y3⟩
     generalize nH (els bs) kv 0 k r S=S1 at *;generalize qh (els bs) kv k r (sst.toNat-1) S1=S2 at *;generalize eF:((kv+1 :Nat):Int)=k1 at *;have sH:=h4.1;have aj8:=oD.tk;simp only[gH] at xG sH;unfold dL at hb2 kz;simp[-bX,-ay,fw,sF,tQ,qU,mC,nX,D.ai,D.refs,ins,p9,xC,ql,eF,zV,hap,kz.1,xG,sH,aS,Aa,P6];exact PL hloc λ_=>⟨rfl,hI⟩
  .rintro H' ⟨i1,i2,lab,i3,w⟩;rw[bT] at i1 w;rw[lQ] at w;exact⟨.inr rfl,lab,w.w,by omega,by omega,i3⟩)
 exact⟨Hs,di,h1,h2⟩

end Go.Proofs.YtgplgbonlnodeaaGreatDoor

namespace Go.Proofs.YtgplgbonlnodeaaGreatDoor
def ml(lab:Nat->ep)(n:Nat)(L:ep)(j:Nat):ep:=if j=n then L else lab j
theorem Ct(lab:Nat->ep)(n:Nat)(L:ep):ml lab n L n=L:=by simp[ml]
variable{H H':Hp}{R:List (Int×List Int)}{j i:Nat}{lab bh:Nat->ep}{α:Type}{l:List α}{a x:α}
theorem xI(lab:Nat->ep){n:Nat}(L:ep)(h:j≠n):ml lab n L j=lab j:=by simp[ml,h]
theorem pD{n:Nat}(L:ep)(hn:lab n= .none)(h:lab j≠.none):ml lab n L j=lab j:=xI lab L λe=>h (e▸hn)
theorem iN.oz{s:Nat}{d:D}(r:iN H lab s d R)
    (h2:∀i,lab i≠.none->bh i=lab i) (h1:∀i cs,lab i= .state s\/(∃f,lab i= .row s f)->H.bx[i]? =Z cs->H'.bx[i]? =Z cs):iN H' bh s d R:=by
 refine r.other λm hm=>⟨h2 m ?_,λcs=>h1 m cs hm⟩;rcases hm with h |⟨f,h⟩<;>rw[h]<;>simp
theorem iN.refs{s:Nat}{d:D}(r:iN H lab s d R):∀x∈d.refs,lab x≠.none:=by
 intro x hx;rcases r with⟨rfl,_⟩ |⟨k,cs,rfl,h2,_⟩
 .cases hx
 .have :x=k:=by simpa[D.refs] using hx
  rw[this,h2];simp

variable{c v m : Nat} {at_ : D} {al : List Int} {bs : Sl Bool} {st lp : Int} {S : fV}
theorem Wk.mono(w:Wk H lab c v m at_ al bs st lp S)(h2:∀i,lab i≠.none->bh i=lab i)
    (h1:∀i cs,lab i≠.none->lab i≠.state (O S)->H.bx[i]? =Z cs->H'.bx[i]? =Z cs)
    (rf:∀(i:Nat) cs,H'.bx[i]? =Z cs->∀x∈D.ai cs,bh x≠.none) (tk:∀(i:Nat) cs,H'.bx[i]? =Z cs->D.aC cs=[]) (fr:∀j,O H'.bx<=j->bh j= .none):Wk H' bh c v m at_ al bs st lp S:=by
 obtain⟨m1,sd,m2,m3⟩:=w.mod;refine⟨⟨?_,sd,h1 _ _ (by rw[m1];simp) (by rw[m1];simp) m2,?_⟩,w.ats.other λi hi=>?_,λi hi=>?_,h1 _ _ (by rw[w.cl];simp) (by rw[w.cl];simp) w.cc,?_,h1 _ _ (by rw[w.vl];simp) (by rw[w.vl];simp) w.vv,?_,rf,tk,fr⟩
 .rw[h2 m (by rw[m1];simp)];exact m1
 .rcases m3 with m3 |⟨s0,ds,q1,q2,q3,q4,q5⟩
  .exact .inl m3
  .refine .inr ⟨s0,ds,q1,by rw[h2 s0 (by rw[q2];simp)];exact q2,h1 _ _ (by rw[q2];simp) (by rw[q2];simp) q3,q4,λs R hR=>?_⟩;obtain⟨d,w1,w2⟩:=q5 s R hR;have bW:=(af.1 hR).1;refine⟨d,w1,w2.oz h2 λi cs hi=>?_⟩;refine h1 i cs ?_ ?_
   .rcases hi with h |⟨f,h⟩<;>rw[h]<;>simp
   .rcases hi with h |⟨f,h⟩
    .rw[h];simp;omega
    .rw[h];simp
 .have bJ:=w.mP i hi;have hl:=w.lt (x:=i) (by rw[bJ];simp);have hg:H.bx[i]? =Z H.bx[i]:=aD hl;rw[hg,h1 i _ (by rw[bJ];simp) (by rw[bJ];simp) hg]
 .rw[h2 i (by rw[w.mP i hi];simp)];exact w.mP i hi
 .rw[h2 c (by rw[w.cl];simp)];exact w.cl
 .rw[h2 v (by rw[w.vl];simp)];exact w.vl
theorem Ab(h:(l++[a])[i]? =Z x):(i<O l/\l[i]? =Z x)\/(i=O l/\x=a):=by
 rcases fA i (O l) with hl |hl
 .rw[aT hl] at h;exact .inl ⟨hl,h⟩
 .rw[cR hl] at h;have h2:=(af.1 h).1;have h3:i=O l:=by simp at h2;omega
  subst h3;simp at h;exact .inr ⟨rfl,h.symm⟩
theorem nJ(h:l[i]? =Z x)(a:α):(l++[a])[i]? =Z x:=by
 rw[aT (af.1 h).1,h]
theorem Wk.IY(w:Wk H lab c v m at_ al bs st lp S)(cs:List D)(hr:∀x∈D.ai cs,lab x≠.none)(ht:D.aC cs=[])(tk:List Nat)(L:ep):Wk ⟨H.bx++[cs],tk⟩ (ml lab (O H.bx) L) c v m at_ al bs st lp S:=by
 have hN:=w.fr _ (aK _);have ho:∀x,lab x≠.none->ml lab (O H.bx) L x≠.none:=λx hx=>by rw[pD L hN hx];exact hx
 refine w.mono (λi hi=>pD L hN hi) (λi cs _ _ h=>nJ h _) (λi ds hi x hx=>?_) (λi ds hi=>?_) λj hj=>?_
 .rcases Ab hi with⟨_,h⟩ |⟨_,rfl⟩
  .exact ho x (w.rf i ds h x hx)
  .exact ho x (hr x hx)
 .rcases Ab hi with⟨_,h⟩ |⟨_,rfl⟩
  .exact w.tk i ds h
  .exact ht
 .simp at hj;rw[xI lab L (by omega)];exact w.fr j (by omega)
theorem Ac{k:Nat}(h:(l.set k a)[i]? =Z x):(i=k/\x=a)\/(i≠k/\l[i]? =Z x):=by
 rw[nU] at h;split at h
 .rename_i e;split at h
  .cases h;exact .inl ⟨e.symm,rfl⟩
  .cases h
 .rename_i e;exact .inr ⟨λh=>e h.symm,h⟩
theorem Wk.N7(w:Wk H lab c v m at_ al bs st lp S){d d':D}{l:List Int}{a:Int}(hd:iN H lab (O S) d R)(hr:fE H d' l)(hl:∀i∈cK d',lab i= .row (O S) (O R))(po:O R<1000000)(hne:R=[]->d= .p .aj)(kP:d'.bk=[]):
    ∃H1,dx 85 2 32 d 1 [.p (.int .i64 a),d'] H=Z (.ae (O H.bx) 85 (O R+1) 2,H1)/\H1.tk=H.tk/\O H1.bx=O H.bx+1/\Wk H1 (ml lab (O H.bx) (.state (O S))) c v m at_ al bs st lp S/\
     iN H1 (ml lab (O H.bx) (.state (O S))) (O S) (.ae (O H.bx) 85 (O R+1) 2) (R++[(a,l)])/\∀j cs,lab j≠.state (O S)->H.bx[j]? =Z cs->H1.bx[j]? =Z cs:=by
 have hN:=w.fr _ (aK _);have hro:roomy (O R+1) 32=true:=by simp[roomy];omega
 have Et:∀x∈d'.refs,lab x≠.none:=by
  intro x hx;cases hr with
  |aj=>cases hx
  |emp=>cases hx
  |row i l hb hne=>
   have :x=i:=by simpa[D.refs] using hx
   rw[this,hl i (by simp[cK])];simp
 have ho:∀x,lab x≠.none->ml lab (O H.bx) (.state (O S)) x≠.none:=λx hx=>by rw[pD _ hN hx];exact hx
 have ny:∀i∈cK d',i<O H.bx:=λi hi=>w.lt (by rw[hl i hi];simp);rcases hd with⟨rfl,rfl⟩ |⟨k,cs,rfl,h2,h3,h4,h5⟩
 .refine⟨⟨H.bx++[[.p (.int .i64 a),d']],H.tk⟩,by simp[dx,iT,show roomy 1 32=true from rfl],rfl,by simp,w.IY _ (by simpa[D.ai,D.refs] using Et) (by simp[D.aC,D.bk,kP]) _ _,?_,λj cs _ h=>nJ h _⟩;refine .inr ⟨O H.bx,[.p (.int .i64 a),d'],rfl,Ct _ _ _,by simp,rfl,λf a2 l2 hf=>?_⟩;obtain⟨rfl,h⟩:f=0/\(a2,l2)=(a,l):=by
   cases f with
   |zero=>simp at hf;exact⟨rfl,by rw[<-hf.1,<-hf.2]⟩
   |succ f=>simp at hf
  cases h;refine⟨rfl,d',rfl,hr.other λi hi=>?_,λi hi=>?_⟩
  .exact aT (ny i hi)
  .rw[pD _ hN (by rw[hl i hi];simp)];exact hl i hi
 .by_cases iy:R=[]
  .cases hne iy
  .have hRp:0<O R:=wh.2 iy;have hne:cs≠[]:=λh=>by rw[h] at h4;simp at h4;omega
   have hmap:ay cs=false:=by
    match cs,h4 with
    |[],_=>rfl
    |[x],h4=>simp at h4;omega
    |x::y::r,_=>exact fw x y r
   have Bk:k<O H.bx:=(af.1 h3).1;have kG:∀i,i≠k->∀es,H.bx[i]? =Z es->(H.bx.set k []++[cs++[.p (.int .i64 a),d']])[i]? =Z es:=λi hi es h=>by
    rw[aT (by simp;exact(af.1 h).1),bp (Ne.symm hi),h]
   have hb:∀i es,(H.bx.set k []++[cs++[.p (.int .i64 a),d']])[i]? =Z es->es=[]\/es=cs++[.p (.int .i64 a),d']\/H.bx[i]? =Z es:=λi es h=>by
    rcases Ab h with⟨_,h⟩ |⟨_,rfl⟩
    .rcases Ac h with⟨_,rfl⟩ |⟨_,h⟩
     .exact .inl rfl
     .exact .inr (.inr h)
    .exact .inr (.inl rfl)
   have wY:∀x∈D.ai (cs++[.p (.int .i64 a),d']),lab x≠.none:=λx hx=>by
    rw[Kf] at hx;rcases cx.1 hx with h |h
    .exact w.rf k cs h3 x h
    .exact Et x (by simpa[D.ai,D.refs] using h)
   refine⟨⟨H.bx.set k []++[cs++[.p (.int .i64 a),d']],H.tk⟩,?_,rfl,by simp,?_,?_,λj es hj h=>?_⟩
   .have h6:¬(O R+1)*2<=O cs:=by omega
    have h7:O R*2<=O cs:=by omega
    have h8:cs.take (O R*2)=cs:=fK (by omega);simp[dx,h3,hmap,hne,hro,h6,h7,h8,-ay]
   .refine w.mono (λi hi=>pD _ hN hi) (λi es r8 bJ h=>kG i (λe=>bJ (by rw[e];exact h2)) es h) (λi es hi x hx=>?_) (λi es hi=>?_) λj hj=>?_
    .rcases hb i es hi with rfl |rfl |h
     .cases hx
     .exact ho x (wY x hx)
     .exact ho x (w.rf i es h x hx)
    .rcases hb i es hi with rfl |rfl |h
     .rfl
     .rw[Kg,w.tk k cs h3];simp[D.aC,D.bk,kP]
     .exact w.tk i es h
    .simp at hj;rw[xI lab _ (by omega)];exact w.fr j (by omega)
   .refine .inr ⟨O H.bx,cs++[.p (.int .i64 a),d'],by simp,Ct _ _ _,by simp,by simp;omega,λf a2 l2 hf=>?_⟩;rcases Ab hf with⟨dZ,hf⟩ |⟨rfl,h⟩
    .obtain⟨e1,d2,e2,e3,e4⟩:=h5 f a2 l2 hf;refine⟨by rw[aT (by omega),e1],d2,by rw[aT (by omega),e2],e3.other λi hi=>?_,λi hi=>?_⟩
     .have cW:=w.lt (x:=i) (by rw[e4 i hi];simp);have hik:k≠i:=λe=>by have:=e4 i hi;rw[<-e,h2] at this;cases this
      show(H.bx.set k []++_)[i]? =_;rw[aT (by simpa using cW),bp hik]
     .rw[pD _ hN (by rw[e4 i hi];simp)];exact e4 i hi
    .cases h;refine⟨by rw[cR (by omega)];simp[h4,tV],d',by rw[cR (by omega)];simp[h4,tV,tZ],hr.other λi hi=>?_,λi hi=>?_⟩
     .have hik:k≠i:=λe=>by have:=hl i hi;rw[<-e,h2] at this;cases this
      show(H.bx.set k []++_)[i]? =_;rw[aT (by simpa using ny i hi),bp hik]
     .rw[pD _ hN (by rw[hl i hi];simp)];exact hl i hi
   .exact kG j (λe=>hj (by rw[e];exact h2)) es h
theorem Wk.N8(w:Wk H lab c v m at_ al bs st lp S){d:D}(hd:iN H lab (O S) d R)(Ve:O S<1000000)(kP:d.bk=[]):
    ∃sd H1,H.bx[m]? =Z [at_,.p (.int .i64 st),sd,.p (.int .i64 lp)]/\((S=[]->sd= .p .aj)->dx 78 1 24 sd 1 [d] H=Z (.ae (O H.bx) 78 (O S+1) 1,H1)/\H1.tk=H.tk/\O H1.bx=O H.bx+1/\H1.bx[m]? =Z [at_,.p (.int .i64 st),sd,.p (.int .i64 lp)]/\
     Wk ⟨H1.bx.set m [at_,.p (.int .i64 st),.ae (O H.bx) 78 (O S+1) 1,.p (.int .i64 lp)],H1.tk⟩ (ml lab (O H.bx) .states) c v m at_ al bs st lp (S++[R])/\∀j cs,lab j= .none->H.bx[j]? =Z cs->(H1.bx.set m [at_,.p (.int .i64 st),.ae (O H.bx) 78 (O S+1) 1,.p (.int .i64 lp)])[j]? =Z cs):=by
 have hN:=w.fr _ (aK _);have hro:roomy (O S+1) 24=true:=by simp[roomy];omega
 have ho:∀x,lab x≠.none->ml lab (O H.bx) .states x≠.none:=λx hx=>by rw[pD _ hN hx];exact hx
 obtain⟨m1,sd,m2,m3⟩:=w.mod;have dN:m<O H.bx:=w.lt (by rw[m1];simp)
 -- whatever the new heap is
 have key:∀(H1:Hp) (ds:List D),H1.tk=H.tk->O H1.bx=O H.bx+1->(∀(i:Nat) es,lab i≠.states->H.bx[i]? =Z es->H1.bx[i]? =Z es)->H1.bx[O H.bx]? =Z (ds++[d])->(∀(i:Nat) es,H1.bx[i]? =Z es->es=[]\/es=ds++[d]\/H.bx[i]? =Z es)->
     O ds=O S->(∀(s:Nat) R,S[s]? =Z R->∃d,ds[s]? =Z d/\iN H lab s d R)->(∀x∈D.ai ds,lab x≠.none)->D.aC ds=[]->
     H1.bx[m]? =Z [at_,.p (.int .i64 st),sd,.p (.int .i64 lp)]/\Wk ⟨H1.bx.set m [at_,.p (.int .i64 st),.ae (O H.bx) 78 (O S+1) 1,.p (.int .i64 lp)],H1.tk⟩ (ml lab (O H.bx) .states) c v m at_ al bs st lp (S++[R])/\∀j cs,lab j= .none->H.bx[j]? =Z cs->(H1.bx.set m [at_,.p (.int .i64 st),.ae (O H.bx) 78 (O S+1) 1,.p (.int .i64 lp)])[j]? =Z cs:=by
  intro H1 ds k1 k2 k3 k4 k5 k6 k7 k8 k9;have iA:=k3 m _ (by rw[m1];simp) m2;have N9:m<O H1.bx:=(af.1 iA).1;have hx:∀(i:Nat) es,i≠m->lab i≠.states->H.bx[i]? =Z es->(H1.bx.set m [at_,.p (.int .i64 st),.ae (O H.bx) 78 (O S+1) 1,.p (.int .i64 lp)])[i]? =Z es:=λi es h1 h2 h3=>by
   rw[bp (Ne.symm h1)];exact k3 i es h2 h3
  have nv:∀(i:Nat) es,lab i≠.none->lab i≠.states->lab i≠.model->H.bx[i]? =Z es->(H1.bx.set m [at_,.p (.int .i64 st),.ae (O H.bx) 78 (O S+1) 1,.p (.int .i64 lp)])[i]? =Z es:=λi es _ h2 h3 h=>hx i es (λe=>h3 (by rw[e];exact m1)) h2 h;have eJ:∀{s:Nat} {d:D} {R:List (Int×List Int)},iN H lab s d R->iN ⟨H1.bx.set m [at_,.p (.int .i64 st),.ae (O H.bx) 78 (O S+1) 1,.p (.int .i64 lp)],H1.tk⟩ (ml lab (O H.bx) .states) s d R:=λ{s d R} h=>
   h.oz (λi hi=>pD _ hN hi) λi cs hi=>by
    refine nv i cs ?_ ?_ ?_
    .rcases hi with h |⟨f,h⟩<;>rw[h]<;>simp
    .rcases hi with h |⟨f,h⟩<;>rw[h]<;>simp
    .rcases hi with h |⟨f,h⟩<;>rw[h]<;>simp
  have hc:∀(i:Nat) es,(H1.bx.set m [at_,.p (.int .i64 st),.ae (O H.bx) 78 (O S+1) 1,.p (.int .i64 lp)])[i]? =Z es->es=[at_,.p (.int .i64 st),.ae (O H.bx) 78 (O S+1) 1,.p (.int .i64 lp)]\/es=[]\/es=ds++[d]\/H.bx[i]? =Z es:=λi es h=>by
   rcases Ac h with⟨_,rfl⟩ |⟨_,h⟩
   .exact .inl rfl
   .exact .inr (k5 i es h)
  refine⟨iA,⟨⟨?_,.ae (O H.bx) 78 (O S+1) 1,by simp[N9],.inr ⟨O H.bx,ds++[d],by simp,Ct _ _ _,?_,by simp[k6],λs R' hR=>?_⟩⟩,?_,λi hi=>?_,?_,?_,?_,?_,λi es hi x eE=>?_,λi es hi=>?_,λj hj=>?_⟩,λj cs hj h=>hx j cs (λe=>by rw[e,m1] at hj;cases hj) (by rw[hj];simp) h⟩
  .rw[pD _ hN (by rw[m1];simp)];exact m1
  .show(H1.bx.set m _)[O H.bx]? =_;rw[bp (by omega),k4]
  .rcases Ab hR with⟨hl,hR⟩ |⟨rfl,rfl⟩
   .obtain⟨d2,e1,e2⟩:=k7 s R' hR;exact⟨d2,nJ e1 _,eJ e2⟩
   .exact⟨d,by rw[<-k6];simp,eJ hd⟩
  .refine w.ats.other λi hi=>?_;have bJ:=w.mP i hi;have hl:=w.lt (x:=i) (by rw[bJ];simp);have hg:H.bx[i]? =Z H.bx[i]:=aD hl;rw[hg];exact nv i _ (by rw[bJ];simp) (by rw[bJ];simp) (by rw[bJ];simp) hg
  .rw[pD _ hN (by rw[w.mP i hi];simp)];exact w.mP i hi
  .exact nv c _ (by rw[w.cl];simp) (by rw[w.cl];simp) (by rw[w.cl];simp) w.cc
  .rw[pD _ hN (by rw[w.cl];simp)];exact w.cl
  .exact nv v _ (by rw[w.vl];simp) (by rw[w.vl];simp) (by rw[w.vl];simp) w.vv
  .rw[pD _ hN (by rw[w.vl];simp)];exact w.vl
  .rcases hc i es hi with rfl |rfl |rfl |h
   .have :x∈at_.refs\/x=O H.bx:=by simpa[D.ai,D.refs] using eE
    rcases this with h |rfl
    .exact ho x (w.rf m _ m2 x (by simp[D.ai,h]))
    .rw[Ct];simp
   .cases eE
   .rw[Kf] at eE;rcases cx.1 eE with h |h
    .exact ho x (k8 x h)
    .exact ho x (hd.refs x (by simpa[D.ai] using h))
   .exact ho x (w.rf i es h x eE)
  .rcases hc i es hi with rfl |rfl |rfl |h
   .have:=w.tk m _ m2;simp only[D.aC,tX] at this;simp[D.aC,D.bk,this.1]
   .rfl
   .rw[Kg,k9];simp[D.aC,kP]
   .exact w.tk i es h
  .simp[k2] at hj;rw[xI lab _ (by omega)];exact w.fr j (by omega)
 rcases m3 with⟨rfl,rfl⟩ |⟨s0,ds,rfl,q2,q3,q4,q5⟩
 .refine⟨_,⟨H.bx++[[d]],H.tk⟩,m2,λ_=>⟨by simp[dx,iT,show roomy 1 24=true from rfl],rfl,by simp,?_⟩⟩;exact key ⟨H.bx++[[d]],H.tk⟩ [] rfl (by simp) (λi es _ h=>nJ h _) (by simp) (λi es h=>by
   rcases Ab h with⟨_,h⟩ |⟨_,h⟩
   .exact .inr (.inr h)
   .exact .inr (.inl h)) rfl (λs R h=>by simp at h) (λx hx=>by cases hx) rfl
 .refine⟨_,⟨H.bx.set s0 []++[ds++[d]],H.tk⟩,m2,λhS=>?_⟩;have Oa:S≠[]:=λh=>by cases hS h
  have Ob:0<O S:=wh.2 Oa;have hne:ds≠[]:=λh=>by rw[h] at q4;simp at q4;omega
  have hmap:ay ds=false:=by
   have h0:S[0]? =Z S[0]:=aD Ob;obtain⟨d0,e1,e2⟩:=q5 0 _ h0;refine xB e1 ?_;rcases e2 with⟨rfl,_⟩ |⟨k,cs,rfl,_⟩<;>rfl
  have h6:¬O S+1<=O ds:=by omega
  have h7:O S<=O ds:=by omega
  have h8:ds.take (O S)=ds:=fK (by omega);refine⟨by simp[dx,q3,hmap,hne,hro,h6,h7,h8,-ay],rfl,by simp,?_⟩;refine key ⟨H.bx.set s0 []++[ds++[d]],H.tk⟩ ds rfl (by simp) (λi es h1 h=>?_) (by simp) (λi es h=>?_) q4 q5 (w.rf s0 ds q3) (w.tk s0 ds q3)
  .refine nJ ?_ _;rw[bp (λe=>h1 (by rw[<-e];exact q2)),h]
  .rcases Ab h with⟨_,h⟩ |⟨_,h⟩
   .rcases Ac h with⟨_,h⟩ |⟨_,h⟩
    .exact .inl h
    .exact .inr (.inr h)
   .exact .inr (.inl h)
theorem Wk.aj9(w:Wk H lab c v m at_ al bs st lp S){sd:D}(hm:H.bx[m]? =Z [at_,.p (.int .i64 st),sd,.p (.int .i64 lp)])(P7:Int):Wk ⟨H.bx.set m [at_,.p (.int .i64 st),sd,.p (.int .i64 P7)],H.tk⟩ lab c v m at_ al bs st P7 S:=by
 obtain⟨m1,lK,m2,m3⟩:=w.mod;have e:lK=sd:=by
  rw[hm] at m2;simp only[bM,xY,and_true,true_and] at m2;exact m2.symm
 subst e;have dN:m<O H.bx:=w.lt (by rw[m1];simp);have hx:∀(i:Nat) es,lab i≠.model->H.bx[i]? =Z es->(H.bx.set m [at_,.p (.int .i64 st),lK,.p (.int .i64 P7)])[i]? =Z es:=λi es h1 h2=>by
  rw[bp (λe=>h1 (by rw[<-e];exact m1)),h2]
 refine⟨⟨m1,lK,by simp[dN],?_⟩,?_,w.mP,hx c _ (by rw[w.cl];simp) w.cc,w.cl,hx v _ (by rw[w.vl];simp) w.vv,w.vl,λi es hi x eE=>?_,λi es hi=>?_,λj hj=>w.fr j (by simpa using hj)⟩
 .rcases m3 with m3 |⟨s0,ds,q1,q2,q3,q4,q5⟩
  .exact .inl m3
  .refine .inr ⟨s0,ds,q1,q2,hx _ _ (by rw[q2];simp) q3,q4,λs R hR=>?_⟩;obtain⟨d,w1,w2⟩:=q5 s R hR;refine⟨d,w1,w2.oz (λ_ _=>rfl) λi cs hi=>hx i cs ?_⟩;rcases hi with h |⟨f,h⟩<;>rw[h]<;>simp
 .refine w.ats.other λi hi=>?_;have bJ:=w.mP i hi;have hl:=w.lt (x:=i) (by rw[bJ];simp);have hg:H.bx[i]? =Z H.bx[i]:=aD hl;rw[hg];exact hx i _ (by rw[bJ];simp) hg
 .rcases Ac hi with⟨_,rfl⟩ |⟨_,h⟩
  .exact w.rf m _ m2 x (by simpa[D.ai,D.refs] using eE)
  .exact w.rf i es h x eE
 .rcases Ac hi with⟨_,rfl⟩ |⟨_,h⟩
  .have:=w.tk m _ m2;simpa[D.aC,D.bk] using this
  .exact w.tk i es h

end Go.Proofs.YtgplgbonlnodeaaGreatDoor

namespace Go.Proofs.YtgplgbonlnodeaaGreatDoor
theorem KA(a b:Sl Int)(x y:Int){d:D}(hd:Pk d y b)(ha:O (els a)<1000000000)(hb:O (els b)<4611686018427387904)(hs:dn (els b)):
    ∃r:Bool,(∀H,au (call pg) 101 [.p (.agg [.int .i64 x,ax a]),d] H=Z (.val (.p (.bool r)),H))/\(r=true↔∀t∈els a,t∈els b):=by
 obtain⟨z,c1,d1⟩:=ahI a b x y ha hb hs;have hk:=zT ((els a).filter λt=>!(els b).contains t);have hsp:(O ((els a).filter λt=>!(els b).contains t)=0)↔∀t∈els a,t∈els b:=by
  rw[CR,List.filter_eq_nil_iff];simp
 generalize qX ((els a).filter λt=>!(els b).contains t)=K at *;rw[<-hk] at hsp;have hf:=rf Vn
 conv at hf=>rhs;reduce
 have h0:(((O (els K):Int)==0)=true)↔O (els K)=0:=by simp
 refine⟨(O (els K):Int)==0,?_,h0.trans hsp⟩;clear hsp h0 hk;rcases hd with rfl |rfl
 .refine aR (aa:=[_,_]) hf rfl rfl rfl ?_;clear hf;rcases d1 with rfl |rfl
  .simp[c1,bG]
  .simp[c1,bG]
 .refine zQ (aa:=[_,_]) hf rfl rfl rfl rfl rfl rfl ?_;clear hf;rcases d1 with rfl |rfl
  .simp[c1,bG]
  .simp[c1,bG]
structure arS (bs:List Bn) (ss:List (Sl Rl)):Prop where
 blo:∀b∈bs,O (els b.lo.tu)<1000000000
 bup:∀b∈bs,O (els b.up.tu)<1000000000
 sup:∀b∈bs,dn (els b.up.tu)
 xJ:∀b∈bs,dn (els b.lo.tu)
 rl:∀x∈ss,∀r∈els x,O (els r.tu)<1000000000
 sr:∀x∈ss,∀r∈els x,dn (els r.tu)
theorem KB{n ar:Int}{l:List Int}(h:vC n ar l):dn l:=by
 obtain⟨_,_,_,_,h⟩:=h;have step:∀i (hi:i+1<O l),l[i]<l[i+1]:=λi hi=>by
  have:=(h (i+1) hi).2 l[i+1] l[i] (by omega) (aD hi) (by rw[Nat.add_sub_cancel];exact aD (by omega));exact this
 refine C1.2 λi j hi hj cI=>?_;have key:∀d (hd:i+(d+1)<O l),l[i]<l[i+(d+1)]:=by
  intro d
  induction d with
  |zero=>intro hd;exact step i hd
  |succ d ih=>
   intro hd;have h1:=ih (by omega);have h2:=step (i+(d+1)) (by omega);exact Int.lt_trans h1 h2
 have:=key (j-i-1) (by omega);have e:i+(j-i-1+1)=j:=by omega
 simp only[e] at this;exact this
def Cu(n:Nat)(ats:List Int)(so:List Int)(b:Bn):Prop:=
 b.lo.ar=O so/\b.up.ar=O so/\vC n b.lo.ar (els b.lo.tu)/\vC n b.up.ar (els b.up.tu)/\(∀t∈els b.lo.tu,t∈els b.up.tu)/\∀t∈els b.up.tu,t∈lJ n ats so (n ^ O so)

variable {so f3 f4 : PD} {fi : Sl Fi} {a : Sl Int} {st : Int} {bs : Sl Bn} {n : Nat}
theorem aka(o1:so.one=true)(o3:f3.one=true)(o4:f4.one=true)(dZ:O (els fi)<4611686018427387904)(_:O (els bs)<4611686018427387904)
    (hl:O (els a)<=1000) (h:∀x∈els a,0<=x/\x<=5) (hn:(els a).sum=n) (kf:n<=12) (ke:∀f∈els fi,1<=n)
    (Cr:∀f∈els fi,sB (O (els a)) (els f.so)) (cN:∀b∈els bs,O (els b.lo.tu)<1000000000/\O (els b.up.tu)<1000000000):
    ∃r:Bool,(∀H,au (call pg) 50 [.p (.agg [so,fT fi,f3,f4]),.p (.agg [ax a,.int .i64 st]),.p (cM bs)] H=Z (.val (.p (.bool r)),H))/\
     (r=true↔O (els bs)=O (els fi)/\∀i,i<O (els bs)->∀b f,(els bs)[i]? =Z b->(els fi)[i]? =Z f->Cu n (els a) (els f.so) b):=by
 have hat:=PX a st hl h;rw[hn] at hat;have key:=fun(heq:O (els bs)=O (els fi))=>zP (c:=call pg) (G:=pg.G) (keep:=[2,3,4,7,8]) (b:=bd a50 0) (λi=>[(2,.p (cM bs)),(3,.box 0 0),(4,.box 1 0),(7,.p (.int .i64 ((n:Nat):Int))),(8,.p (.int .i64 ((i:Nat):Int)))])
  ⟨[[.p so,.p (fT fi),.p f3,.p f4],[.p (ax a),.p (.int .i64 st)]],[]⟩ (O (els bs))
  (λi=>∀b f,(els bs)[i]? =Z b->(els fi)[i]? =Z f->Cu n (els a) (els f.so) b) 0 (λ_=>True) (λe=>e.get 6= .p (.bool false))
  (λi hi hP=>by
   conv in bd a50 0=>reduce
   have bJ:i<O (els fi):=by omega
   obtain⟨q1,q2,q3,q4,q5,q6⟩:=hP _ _ (aD hi) (aD bJ);have jO:=cN _ (dw hi);have iH:=Cr _ (dw bJ);have ke:=ke _ (dw bJ);obtain⟨b1,c1,d1⟩:=J5 n (els bs)[i].lo.ar (els bs)[i].lo.tu (by omega);obtain⟨b2,c2,d2⟩:=J5 n (els bs)[i].up.ar (els bs)[i].up.tu (by omega);obtain⟨b3,c3,d3⟩:=KA (els bs)[i].lo.tu (els bs)[i].up.tu (els bs)[i].lo.ar (els bs)[i].up.ar (.inl rfl) jO.1 (by omega) (KB q4);obtain⟨df,c4,d4⟩:=X2 a (els fi)[i].so st hl h iH hn ke kf;have Ad:(els (qX (lJ n (els a) (els (els fi)[i].so) (n ^ O (els (els fi)[i].so))))).length<4611686018427387904:=by
    rw[zT];have:=PZ n (els a) (els (els fi)[i].so) (n ^ O (els (els fi)[i].so));have:=B3 kf iH.2.2;omega
   obtain⟨b5,c5,d5⟩:=KA (els bs)[i].up.tu _ (els bs)[i].up.ar _ d4 jO.2 Ad (by rw[zT];exact X1 _ _ _ _);rw[zT] at d5;have r1:df.refs=[]:=by rcases d4 with rfl |rfl<;>rfl
   have r2:df.bk=[]:=by rcases d4 with rfl |rfl<;>rfl
   have e1:=d1.2 q3;have e2:=d2.2 q4;have e3:=d3.2 q5;have e5:=d5.2 q6;subst e1;subst e2;subst e3;subst e5;rw[q1] at c1 c3;rw[q2] at c2 c3 c5;clear hP d1 d2 d3 d4 d5;simp[iL,bG,pz hi,py bJ,hi,q1,q2,c1,c2,c3,c4,c5,r1,r2,bt (k:=i) (by omega)])
  (λi hi hP=>by
   conv in bd a50 0=>reduce
   have bJ:i<O (els fi):=by omega
   have jO:=cN _ (dw hi);have iH:=Cr _ (dw bJ);have ke:=ke _ (dw bJ);by_cases q1:(els bs)[i].lo.ar=O (els (els fi)[i].so)
   .by_cases q2:(els bs)[i].up.ar=O (els (els fi)[i].so)
    .obtain⟨b1,c1,d1⟩:=J5 n (els bs)[i].lo.ar (els bs)[i].lo.tu (by omega);cases b1 with
     |false=>
      rw[q1] at c1;simp[iL,bG,pz hi,py bJ,hi,q1,q2,c1]
     |true=>
      obtain⟨b2,c2,d2⟩:=J5 n (els bs)[i].up.ar (els bs)[i].up.tu (by omega);cases b2 with
      |false=>
       rw[q1] at c1;rw[q2] at c2;simp[iL,bG,pz hi,py bJ,hi,q1,q2,c1,c2]
      |true=>
       have q3:=d1.1 rfl;have q4:=d2.1 rfl;obtain⟨b3,c3,d3⟩:=KA (els bs)[i].lo.tu (els bs)[i].up.tu (els bs)[i].lo.ar (els bs)[i].up.ar (.inl rfl) jO.1 (by omega) (KB q4);cases b3 with
       |false=>
        rw[q1] at c1 c3;rw[q2] at c2 c3;simp[iL,bG,pz hi,py bJ,hi,q1,q2,c1,c2,c3]
       |true=>
        obtain⟨df,c4,d4⟩:=X2 a (els fi)[i].so st hl h iH hn ke kf;have Ad:(els (qX (lJ n (els a) (els (els fi)[i].so) (n ^ O (els (els fi)[i].so))))).length<4611686018427387904:=by
         rw[zT];have:=PZ n (els a) (els (els fi)[i].so) (n ^ O (els (els fi)[i].so));have:=B3 kf iH.2.2;omega
        obtain⟨b5,c5,d5⟩:=KA (els bs)[i].up.tu _ (els bs)[i].up.ar _ d4 jO.2 Ad (by rw[zT];exact X1 _ _ _ _);rw[zT] at d5;cases b5 with
        |true=>
         refine absurd (λb f h1 h2=>?_) hP;rw[aD hi] at h1;rw[aD bJ] at h2;cases h1;cases h2;exact⟨q1,q2,q3,q4,d3.1 rfl,d5.1 rfl⟩
        |false=>
         have r1:df.refs=[]:=by rcases d4 with rfl |rfl<;>rfl
         have r2:df.bk=[]:=by rcases d4 with rfl |rfl<;>rfl
         rw[q1] at c1 c3;rw[q2] at c2 c3 c5;simp[iL,bG,pz hi,py bJ,hi,q1,q2,c1,c2,c3,c4,c5,r1,r2]
    .simp[iL,bG,pz hi,py bJ,hi,q1,q2]
   .simp[iL,bG,pz hi,py bJ,hi,q1])
  (by
   conv in bd a50 0=>reduce
   simp[iL])
 have hb0:=rf (bd a50 0)
 conv at hb0=>rhs;reduce
 have hf:=rf a50
 conv at hf=>rhs;reduce
 rw[<-hb0] at hf;by_cases heq:O (els bs)=O (els fi)
 .rcases key heq with⟨e,hx,-,hp⟩ |⟨e,hx,hr,hp⟩
  .refine⟨true,aR (aa:=[_,_,_]) hf rfl rfl rfl ?_,iff_of_true rfl ⟨heq,hp⟩⟩;clear hf hb0;simp at hx;simp[o1,o3,o4,iL,il,heq,hat,hx]
  .refine⟨false,aR (aa:=[_,_,_]) hf rfl rfl rfl ?_,iff_of_false (by simp) λhh=>hp hh.2⟩;clear hf hb0;simp at hx;simp[o1,o3,o4,iL,il,heq,hat,hx,hr]
 .refine⟨false,aR (aa:=[_,_,_]) hf rfl rfl rfl ?_,iff_of_false (by simp) λhh=>heq hh.1⟩;clear hf hb0;simp[o1,o3,o4,iL,il,heq]

end Go.Proofs.YtgplgbonlnodeaaGreatDoor

namespace Go.Proofs.YtgplgbonlnodeaaGreatDoor
structure nK (sp:Sp) (a:Sl Int) (st:Int) (bs:Sl Bn):Prop where
 FM:mN sp
 sc:JY (O (els sp.so)) a st
 sm:(els a).sum<=4
 len:O (els bs)=O (els sp.fi)
 tu:∀b∈els bs,O (els b.lo.tu)<=64/\O (els b.up.tu)<=64
 bn:∀i,i<O (els bs)->∀b f,(els bs)[i]? =Z b->(els sp.fi)[i]? =Z f->Cu (els a).sum.toNat (els a) (els f.so) b
theorem akb(sp:Sp)(a:Sl Int)(st:Int)(bs:Sl Bn)(hbl:O (els bs)<4611686018427387904):
    (∃e,dB (call pg) pg.G [2,3,4,8] (bd qc 0) ⟨[(2,.p (cM bs)),(3,.box 0 0),(4,.box 1 0),(8,.p (.int .i64 0))],⟨[sp.cl.map .p,[.p (ax a),.p (.int .i64 st)]],[]⟩⟩=Z (.exit 0,⟨e,⟨[sp.cl.map .p,[.p (ax a),.p (.int .i64 st)]],[]⟩⟩)/\(e.get 2= .p (cM bs)/\e.get 3= .box 0 0/\e.get 4= .box 1 0)/\∀i,i<O (els bs)->∀b,(els bs)[i]? =Z b->O (els b.lo.tu)<=64/\O (els b.up.tu)<=64)\/
    (∃e,dB (call pg) pg.G [2,3,4,8] (bd qc 0) ⟨[(2,.p (cM bs)),(3,.box 0 0),(4,.box 1 0),(8,.p (.int .i64 0))],⟨[sp.cl.map .p,[.p (ax a),.p (.int .i64 st)]],[]⟩⟩=Z (.ret,⟨e,⟨[sp.cl.map .p,[.p (ax a),.p (.int .i64 st)]],[]⟩⟩)/\e.get 6= .p (.bool false)):=by
 refine mL (c:=call pg) (G:=pg.G) (keep:=[2,3,4,8]) (b:=bd qc 0) (λi=>[(2,.p (cM bs)),(3,.box 0 0),(4,.box 1 0),(8,.p (.int .i64 ((i:Nat):Int)))]) ⟨[sp.cl.map .p,[.p (ax a),.p (.int .i64 st)]],[]⟩ (O (els bs)) (λi=>∀b,(els bs)[i]? =Z b->O (els b.lo.tu)<=64/\O (els b.up.tu)<=64) 0 (λe=>e.get 2= .p (cM bs)/\e.get 3= .box 0 0/\e.get 4= .box 1 0) (λe=>e.get 6= .p (.bool false)) ?_ ?_
 .intro i hi;have aS:=pz hi;have k1:=bt (k:=i) (by omega);have hP:O (els (els bs)[i].lo.tu)<=64/\O (els (els bs)[i].up.tu)<=64->∀b,(els bs)[i]? =Z b->O (els b.lo.tu)<=64/\O (els b.up.tu)<=64:=by
   intro h b hb;rw[aD hi] at hb;cases hb;exact h
  generalize (∀b,(els bs)[i]? =Z b->O (els b.lo.tu)<=64/\O (els b.up.tu)<=64)=PP at *;generalize (els bs)[i]=q at *
  conv in bd qc 0=>reduce
  by_cases g1:(64 :Int)<(O (els q.lo.tu):Int)
  .simp[iL,bG,hi,aS,g1]
  .by_cases g2:(64 :Int)<(O (els q.up.tu):Int)
   .simp[iL,bG,hi,aS,g1,g2]
   .have hP:=hP ⟨by omega,by omega⟩;simp[iL,bG,hi,aS,g1,g2,k1,hP]
 .skip
  conv in bd qc 0=>reduce
  simp[iL]
theorem P8:∀l:List Int,(∀x∈l,0<=x)->0<=l.sum
 |[],_=>by simp
 |x::l,h=>by
  have h1:=h x rD;have h2:=P8 l λy hy=>h y (kA _ hy);simp only[Lf];omega
theorem akc:∀l:List Int,l≠[]->(∀x∈l,1<=x)->1<=l.sum
 |[],h,_=>absurd rfl h
 |x::l,_,h=>by
  have h1:=h x rD;have h2:=P8 l λy hy=>by have:=h y (kA _ hy);omega
  simp only[Lf];omega
theorem akd(sp:Sp)(xy:Ca sp)(hn:pC sp)(a:Sl Int)(st:Int)(bs:Sl Bn)(hl:O (els a)<4611686018427387904)(hbl:O (els bs)<4611686018427387904)(bW:O (els sp.so)<4611686018427387904):
    ∃r:Bool,(∀H,au (call pg) 11 [.p (.agg sp.cl),.p (.agg [ax a,.int .i64 st]),.p (cM bs)] H=Z (.val (.p (.bool r)),H))/\(r=true->nK sp a st bs):=by
 obtain⟨r1,c1,d1⟩:=ah2 sp xy;have key:=akb sp a st bs hbl;have fin:∀r:Bool,(r=true->nK sp a st bs)->post (gives true [.t 6] (.p (.bool r))) (aq (call pg) pg.G aM ((qc.map λf=>f.body).getD .skip) ⟨entry 0 [.p (.agg sp.cl),.p (.agg [ax a,.int .i64 st]),.p (cM bs)],⟨[],[]⟩⟩)->
     ∃r:Bool,(∀H,au (call pg) 11 [.p (.agg sp.cl),.p (.agg [ax a,.int .i64 st]),.p (cM bs)] H=Z (.val (.p (.bool r)),H))/\(r=true->nK sp a st bs):=by
  intro r h1 hr;have hb0:=rf (bd qc 0)
  conv at hb0=>rhs;reduce
  have hf:=rf qc
  conv at hf=>rhs;reduce
  rw[<-hb0] at hf;rw[hf] at hr;exact⟨r,aR (aa:=[_,_,_]) hf rfl rfl rfl hr,h1⟩
 have hb0:=rf (bd qc 0)
 conv at hb0=>rhs;reduce
 have hf:=rf qc
 conv at hf=>rhs;reduce
 rw[<-hb0] at hf;rw[hf] at fin;simp only[fy,mq] at fin;clear hf hb0;cases r1 with
 |false=>
  refine fin false (λh=>by cases h) ?_;clear fin key;simp[c1]
 |true=>
  have ok:=d1 rfl;clear d1;by_cases g1:O (els bs)=O (els sp.fi)
  .obtain⟨r2,c2,d2⟩:=ahC (so:=jU sp.so) (f2:=fT sp.fi) (f3:=jV sp.pr) (f4:=jW sp.fa) (n:=O (els sp.so)) (iM _) (by simp) (by simp) (by simp) (by simp) a st bW hl;cases r2 with
   |false=>
    refine fin false (λh=>by cases h) ?_;clear fin key d2;simp[c1,iL,il,g1,c2]
   |true=>
    have sc:=d2.1 rfl;clear d2;rcases key with⟨e,hx,⟨q2,q3,q4⟩,KC⟩ |⟨e,hx,q6⟩
    .have Ye:=vA.1 KC;have hsm:=W9 a st (by have:=sc.1;have:=sc.2.1;omega) (λx hx=>by have:=sc.2.2.2.2.1 x hx;omega);simp at hx;by_cases g2:(4 :Int)<(els a).sum
     .refine fin false (λh=>by cases h) ?_;clear fin KC sc;simp[c1,iL,il,g1,c2,hx,q2,q3,q4,hsm,g2]
     .obtain⟨y,k,hk,c3⟩:=ajG sp ok hn;by_cases g3:0<k
      .refine fin false (λh=>by cases h) ?_;clear fin KC sc;have g3':(0 :Int)<(k:Int):=by omega
       simp[c1,iL,il,g1,c2,hx,q2,q3,q4,hsm,g2,c3,hk,g3]
      .have g3':¬(0 :Int)<(k:Int):=by omega
       have hnn:=P8 (els a) λx hx=>by have:=sc.2.2.2.2.1 x hx;omega
       obtain⟨r4,c4,d4⟩:=aka (so:=jU sp.so) (f3:=jV sp.pr) (f4:=jW sp.fa) (fi:=sp.fi) (a:=a) (st:=st) (bs:=bs) (n:=(els a).sum.toNat) (by simp) (by simp) (by simp) (by have:=ok.nf;omega) hbl (by have:=sc.1;have:=sc.2.1;omega)
        (λx hx=>by have:=sc.2.2.2.2.1 x hx;omega) (by omega) (by omega)
        (λf hf=>by
         have iH:=ok.fd f hf;have hne:els a≠[]:=λe0=>by
          have h1:=sc.1;rw[e0] at h1;have h3:0<O (els f.so):=by have:=iH.2.1;omega
          have h2:=iH.1 _ (dw h3);simp at h1;omega
         have:=akc (els a) hne λx hx=>(sc.2.2.2.2.1 x hx).1;omega)
        (λf hf=>by rw[sc.1];exact ok.fd f hf) (λb hb=>by have:=Ye b hb;omega)
       refine fin r4 (λh=>⟨ok,sc,by omega,g1,Ye,(d4.1 h).2⟩) ?_;clear fin KC sc d4;simp[c1,iL,il,g1,c2,hx,q2,q3,q4,hsm,g2,c3,hk,g3,c4]
    .simp at hx;refine fin false (λh=>by cases h) ?_;clear fin;simp[c1,iL,il,g1,c2,hx,q6]
  .refine fin false (λh=>by cases h) ?_;clear fin key;have Ff:¬(O (els bs):Int)=(O (els sp.fi):Int):=by omega
   simp[c1,iL,il,Ff]
def Yf(ats:List Int)(ss:List (Sl Rl))(i:Nat)(f:Fi)(r:Rl):Prop:=
 r.ar=O (els f.so)/\vC ats.sum r.ar (els r.tu)/\Pc ats (els f.so) (els r.tu)/\
 (f.va=false->∀x0 r0,ss[0]? =Z x0->(els x0)[i]? =Z r0->r.ar=r0.ar/\els r.tu=els r0.tu)

variable {so f3 f4 : PD} {fi : Sl Fi} {a : Sl Int} {ss : Sl (Sl Rl)} {st lp : Int}

end Go.Proofs.YtgplgbonlnodeaaGreatDoor

namespace Go.Proofs.YtgplgbonlnodeaaGreatDoor
def Yg(nf i:Nat)(n:Int)(ats so:List Int)(va:Bool)(ss:List (Sl Rl))(x:Sl Rl):Prop:=
 O (els x)=nf/\∀r,(els x)[i]? =Z r->r.ar=O so/\vC n r.ar (els r.tu)/\Pc ats so (els r.tu)/\
  (va=false->∀x0 r0,ss[0]? =Z x0->(els x0)[i]? =Z r0->r.ar=r0.ar/\els r.tu=els r0.tu)
def Yh(ns nf i:Nat)(ats:List Int)(ss:List (Sl Rl))(f:Fi):Prop:=sB ns (els f.so)/\∀x∈ss,Yg nf i ats.sum ats (els f.so) f.va ss x
def P9(ns:Nat)(fi:List Fi)(a:Sl Int)(st:Int)(ss:List (Sl Rl))(lp:Int):Prop:=
 JY ns a st/\(O ss:Int)=st/\0<=lp/\lp<st/\(∀i,i<O fi->∀f,fi[i]? =Z f->Yh ns (O fi) i (els a) ss f)/\∀x∈ss,O (els x)=O fi

variable {so f3 f4 : PD} {ns : Nat} {fi : Sl Fi} {a : Sl Int} {ss : Sl (Sl Rl)} {st lp : Int}

end Go.Proofs.YtgplgbonlnodeaaGreatDoor

namespace Go.Proofs.YtgplgbonlnodeaaGreatDoor

variable {so f3 f4 : PD} {ns : Nat} {fi : Sl Fi} {a : Sl Int} {ss : Sl (Sl Rl)} {st lp : Int}

end Go.Proofs.YtgplgbonlnodeaaGreatDoor

namespace Go.Proofs.YtgplgbonlnodeaaGreatDoor
def qz(ats:List Int)(fi:List Fi)(ss:List (Sl Rl))(x:Sl Rl):Prop:=
 O (els x)=O fi/\∀i,i<O fi->∀f r,fi[i]? =Z f->(els x)[i]? =Z r->Yf ats ss i f r
variable{st lp:Int}{ns:Nat}{a:Sl Int}
theorem akf{fi:List Fi}{ss:List (Sl Rl)}(Cr:∀f∈fi,sB ns (els f.so)):
    P9 ns fi a st ss lp↔JY ns a st/\(O ss:Int)=st/\0<=lp/\lp<st/\∀x∈ss,qz (els a) fi ss x:=by
 unfold P9 qz Yh Yg Yf;refine and_congr_right λ_=>and_congr_right λ_=>and_congr_right λ_=>and_congr_right λ_=>?_;constructor
 .rintro⟨h1,h2⟩ x hx;refine⟨h2 x hx,λi hi f r hf hr=>?_⟩;exact((h1 i hi f hf).2 x hx).2 r hr
 .intro h;refine⟨λi hi f hf=>⟨Cr f (bB hf),λx hx=>⟨(h x hx).1,λr hr=>(h x hx).2 i hi f r hf hr⟩⟩,λx hx=>(h x hx).1⟩

variable{so f3 f4 : PD}  {fi : Sl Fi}  {ss : Sl (Sl Rl)} 

end Go.Proofs.YtgplgbonlnodeaaGreatDoor

namespace Go.Proofs.YtgplgbonlnodeaaGreatDoor
attribute [local irreducible] pw nz nA jt

variable {so f3 f4 : PD} {fi : Sl Fi} {a ma : Sl Int} {bs : Sl Bn} {st mst lp : Int} {ss : Sl (Sl Rl)} {ns : Nat}

end Go.Proofs.YtgplgbonlnodeaaGreatDoor

namespace Go.Proofs.YtgplgbonlnodeaaGreatDoor
attribute [local irreducible] pw nz nA jt

variable {so f3 f4 : PD} {fi : Sl Fi} {a ma : Sl Int} {bs : Sl Bn} {st mst lp : Int} {ss : Sl (Sl Rl)} {ns : Nat}

end Go.Proofs.YtgplgbonlnodeaaGreatDoor

namespace Go.Proofs.YtgplgbonlnodeaaGreatDoor
variable {so f3 f4 : PD} {ns : Nat} {fi : Sl Fi} {a : Sl Int} {ss : Sl (Sl Rl)} {st lp : Int}
def akh(ns:Nat)(fi:List Fi)(a:List Int)(ss:List (Sl Rl)):Prop:=
 ns<=10/\O fi<=10/\O ss<=64/\O a<=10/\(∀x∈ss,O (els x)<=10/\∀r∈els x,O (els r.tu)<=200)/\∀f∈fi,O (els f.so)<=10

end Go.Proofs.YtgplgbonlnodeaaGreatDoor

namespace Go.Proofs.YtgplgbonlnodeaaGreatDoor
attribute [local irreducible] pw nz nA jt
structure Mo where
 a:Sl Int
 st:Int
 ss:Sl (Sl Rl)
 lp:Int
abbrev Mo.p(m:Mo):PD:=.agg [ax m.a,.int .i64 m.st,qd m.ss,.int .i64 m.lp]
def Yi(sp:Sp)(m:Mo):Prop:=akh (O (els sp.so)) (els sp.fi) (els m.a) (els m.ss)
def Yj(sp:Sp)(m:Mo):Prop:=P9 (O (els sp.so)) (els sp.fi) m.a m.st (els m.ss) m.lp
variable{st:Int}{m:Mo}{bs:Sl Bn}{a:Sl Int}{sp:Sp}
theorem Yi.tu(h:Yi sp m):∀x∈els m.ss,∀r∈els x,O (els r.tu)<1000000000:=λx hx r hr=>by
 have:=(h.2.2.2.2.1 x hx).2 r hr;omega
theorem Yj.row(h:Yj sp m)(ok:nK sp a st bs):∀x∈els m.ss,qz (els m.a) (els sp.fi) (els m.ss) x:=
 ((akf ok.FM.fd).1 h).2.2.2.2
theorem nK.at(ok:nK sp a st bs):∀b∈els bs,∃so:List Int,Cu (els a).sum.toNat (els a) so b:=λb hb=>by
 obtain⟨i,hi,rfl⟩:=ya hb;have hf:i<O (els sp.fi):=by have:=ok.len;omega
 exact⟨_,ok.bn i hi _ _ (aD hi) (aD hf)⟩

end Go.Proofs.YtgplgbonlnodeaaGreatDoor

namespace Go.Proofs.YtgplgbonlnodeaaGreatDoor
variable{H:Hp}{gk ga gb:Int}{ds:List Bool}{S:fV}{v i a b:Nat}{lab:Nat->ep}{α:Type}
def Cv:List α->Sl α
 |[]=>.cJ
 |x::r=>.of (x::r)
theorem xK(l:List α):els (Cv l)=l:=by cases l<;>rfl
theorem KD(sz:Nat)(f:α->PD)(l:List α):PD.slice sz (l.map f)=eh sz ((Cv l).map f):=by cases l<;>rfl
theorem Cw(H:Hp)(n:Nat):(.p .aj:D).av 0 H n= .p .aj:=kj 0 H n .aj
theorem aki(l:List Int):∀x∈l.map (PD.int .i64),nI 1 x:=λx hx=>by
 obtain⟨y,_,rfl⟩:=cA.1 hx;exact .inl ⟨rfl,rfl⟩
theorem fE.av{d:D}{l:List Int}(r:fE H d l):∃s:Sl Int,els s=l/\s≠.cJ/\∀n,d.av 0 H (n+2)= .p (ax s):=by
 cases r with
 |aj=>exact⟨.nil,rfl,by simp,λn=>Cw H _⟩
 |emp=>exact⟨.of [],rfl,by simp,λn=>rfl⟩
 |row i l hb hne=>
  cases l with
  |nil=>exact absurd rfl hne
  |cons x r=>
   refine⟨.of (x::r),rfl,by simp,λn=>?_⟩;have h1:(bz (x::r)).map (D.av 0 H (n+1))=((x::r).map (PD.int .i64)).map .p:=by
    unfold bz;rw[pO];exact pN λp _=>kj 0 H (n+1) p
   have h2:Vs.sub (bz (x::r)) 0 (0+O (x::r)*1)=bz (x::r):=by
    unfold Vs.sub;rw[pM,fK (by rw[tO];omega)]
   have h4:=vG (aki (x::r));have h5:((x::r).map (PD.int .i64)).flatMap PD.cells=(x::r).map (PD.int .i64):=PE _;rw[h5,bT] at h4;unfold D.av;dsimp only;rw[if_pos (bD _),hb];dsimp only;rw[if_pos ⟨vE _,by rw[tO];omega,Nat.one_pos⟩,h2,h1,tP];dsimp only;rw[h4];rfl
def KE(xs:List Rl):List PD:=(xs.map Rl.p).flatMap PD.cells
theorem akj(x:Rl)(xs:List Rl):KE (x::xs)= .int .i64 x.ar::ax x.tu::KE xs:=rfl
theorem Yk{H:Hp}:∀(R:List (Int×List Int)) (cs:List D),O cs=O R*2->
    (∀(f:Nat) (a:Int) (l:List Int),R[f]? =Z (a,l)->cs[2*f]? =Z (.p (.int .i64 a))/\∃d',cs[2*f+1]? =Z d'/\fE H d' l)->
    ∃xs:List Rl,xs.map (λr=>(r.ar,els r.tu))=R/\(∀r∈xs,r.tu≠.cJ)/\∀n,cs.map (D.av 0 H (n+2))=(KE xs).map .p
 |[],cs,h,_=>by
  have :cs=[]:=sO (by simpa using h);subst this;exact⟨[],rfl,by simp,λn=>rfl⟩
 |(a,l)::R,cs,h,hc=>by
  obtain⟨c0,c1,cs,rfl⟩:∃c0 c1 cs',cs=c0::c1::cs':=by
   match cs,h with
   |[],h=>simp at h
   |[x],h=>simp at h;omega
   |x::y::r,_=>exact⟨x,y,r,rfl⟩
  obtain⟨e1,d',e2,e3⟩:=hc 0 a l rfl;simp at e1 e2;subst e1 e2;obtain⟨xs,h1,h2,h3⟩:=Yk (H:=H) R cs (by simp at h;omega) λf a l hf=>by
   obtain⟨g1,d2,g2,g3⟩:=hc (f+1) a l (by simpa using hf);refine⟨?_,d2,?_,g3⟩
   .rw[show 2*(f+1)=2*f+1+1 by omega] at g1;simpa using g1
   .rw[show 2*(f+1)+1=2*f+1+1+1 by omega] at g2;simpa using g2
  obtain⟨s,s1,s2,s3⟩:=e3.av;refine⟨⟨a,s⟩::xs,by simp[s1,h1],?_,λn=>?_⟩
  .intro r hr;rcases cq.1 hr with rfl |hr
   .exact s2
   .exact h2 r hr
  .rw[cB,cB,s3,h3,akj,cB,cB];exact congrArg (· ::_) (kj 0 H _ _)
theorem akk(xs:List Rl):∀x∈xs.map Rl.p,nI 2 x:=λx hx=>by
 obtain⟨y,_,rfl⟩:=cA.1 hx;exact .inr ⟨by simp,_,rfl,rfl⟩
theorem iN.av{s:Nat}{d:D}{R:List (Int×List Int)}(r:iN H lab s d R):∃x:Sl Rl,(els x).map (λr=>(r.ar,els r.tu))=R/\(∀r∈els x,r.tu≠.cJ)/\∀n,d.av 0 H (n+3)= .p (oA x):=by
 rcases r with⟨rfl,rfl⟩ |⟨k,cs,rfl,h2,h3,h4,h5⟩
 .exact⟨.nil,rfl,by simp[els],λn=>Cw H _⟩
 .obtain⟨xs,x1,x2,x3⟩:=Yk (H:=H) R cs h4 λf a l hf=>by
   obtain⟨e1,d',e2,e3,_⟩:=h5 f a l hf;exact⟨e1,d',e2,e3⟩
  have hlen:O xs=O R:=by rw[<-x1,bT]
  refine⟨Cv xs,by rw[xK];exact x1,by rw[xK];exact x2,λn=>?_⟩;have hmap:ay cs=false:=by
   match cs,h4 with
   |[],_=>rfl
   |[x],h4=>simp at h4;omega
   |x::y::r,_=>exact fw x y r
  have hs:Vs.sub cs 0 (0+O R*2)=cs:=by
   unfold Vs.sub;rw[pM,fK (by omega)]
  have hch:=vG (akk xs);rw[bT,hlen] at hch;unfold D.av;dsimp only;rw[if_pos (bD _),h3];dsimp only;rw[if_pos ⟨hmap,by omega,by omega⟩,hs,x3 n,tP];dsimp only;unfold KE;rw[hch,KD];rfl
theorem akl(xs:List (Sl Rl)):∀x∈xs.map oA,nI 1 x:=λx hx=>by
 obtain⟨y,_,rfl⟩:=cA.1 hx;exact .inl ⟨rfl,O2 y⟩
def stM(x:Sl Rl):List (Int×List Int):=(els x).map λr=>(r.ar,els r.tu)
theorem Yl{H:Hp}{lab:Nat->ep}:∀(S:fV) (ds:List D) (k:Nat),O ds=O S->(∀(s:Nat) R,S[s]? =Z R->∃d,ds[s]? =Z d/\iN H lab (k+s) d R)->
    ∃xs:List (Sl Rl),xs.map stM=S/\(∀x∈xs,∀r∈els x,r.tu≠.cJ)/\∀n,ds.map (D.av 0 H (n+3))=(xs.map oA).map .p
 |[],ds,_,h,_=>by
  have :ds=[]:=sO (by simpa using h);subst this;exact⟨[],rfl,by simp,λn=>rfl⟩
 |R::S,[],_,h,_=>by simp at h
 |R::S,d::ds,k,h,hc=>by
  obtain⟨d0,e1,e2⟩:=hc 0 R rfl;simp at e1;subst e1;obtain⟨xs,h1,h2,h3⟩:=Yl (H:=H) (lab:=lab) S ds (k+1) (by simpa using h) λs R hR=>by
   obtain⟨d2,g1,g2⟩:=hc (s+1) R (by simpa using hR);exact⟨d2,by simpa using g1,by rw[show k+1+s=k+(s+1) by omega];exact g2⟩
  obtain⟨x,x1,x2,x3⟩:=e2.av;refine⟨x::xs,by rw[cB,h1];exact congrArg (· ::S) x1,?_,λn=>?_⟩
  .intro y hy;rcases cq.1 hy with rfl |hy
   .exact x2
   .exact h2 y hy
  .rw[cB,x3,h3];rfl
theorem PF.av{sd:D}(r:PF H lab sd S):∃x:Sl (Sl Rl),(els x).map stM=S/\(∀y∈els x,∀r∈els y,r.tu≠.cJ)/\∀n,sd.av 0 H (n+4)= .p (qd x):=by
 rcases r with⟨rfl,rfl⟩ |⟨k,ds,rfl,h2,h3,h4,h5⟩
 .exact⟨.nil,rfl,by simp[els],λn=>Cw H _⟩
 .obtain⟨xs,x1,x2,x3⟩:=Yl (H:=H) (lab:=lab) S ds 0 h4 λs R hR=>by simpa using h5 s R hR
  have hlen:O xs=O S:=by rw[<-x1,bT]
  refine⟨Cv xs,by rw[xK];exact x1,by rw[xK];exact x2,λn=>?_⟩;have hmap:ay ds=false:=by
   cases ds with
   |nil=>rfl
   |cons d0 ds=>
    have hl:0<O S:=by simp at h4;omega
    obtain⟨d,e1,e2⟩:=h5 0 S[0] (aD hl);refine xB e1 ?_;rcases e2 with⟨rfl,_⟩ |⟨k,cs,rfl,_⟩<;>rfl
  have hs:Vs.sub ds 0 (0+O S*1)=ds:=by
   unfold Vs.sub;rw[pM,fK (by omega)]
  have hch:=vG (akl xs);have dZ:(xs.map oA).flatMap PD.cells=xs.map oA:=by
   clear x1 x2 x3 hlen hch
   induction xs with
   |nil=>rfl
   |cons x r ih=>rw[cB,sP,O2,ih];rfl
  rw[dZ,bT,hlen] at hch;unfold D.av;dsimp only;rw[if_pos (bD _),h3];dsimp only;rw[if_pos ⟨hmap,by omega,Nat.one_pos⟩,hs,x3 n,tP];dsimp only;rw[hch,KD];rfl
theorem Wk.ending{c m:Nat}{at_:D}{al:List Int}{bs:Sl Bool}{st lp:Int}(w:Wk H lab c v m at_ al bs st lp S):
    ∃(sd:D) (ma:Sl Int) (ss:Sl (Sl Rl)),H.bx[m]? =Z [at_,.p (.int .i64 st),sd,.p (.int .i64 lp)]/\els ma=al/\(els ss).map stM=S/\ma≠.cJ/\(∀y∈els ss,∀r∈els y,r.tu≠.cJ)/\
     fin true (.agg [at_,.p (.int .i64 st),sd,.p (.int .i64 lp)]) H (.p (.agg [ax ma,.int .i64 st,qd ss,.int .i64 lp])):=by
 obtain⟨m1,sd,m2,m3⟩:=w.mod;obtain⟨ma,a1,a2,a3⟩:=w.ats.av;obtain⟨ss,s1,s2,s3⟩:=m3.av;refine⟨sd,ma,ss,m2,a1,s1,a2,s2,?_⟩;have h:(D.agg [at_,.p (.int .i64 st),sd,.p (.int .i64 lp)]).av 0 H 8= .p (.agg [ax ma,.int .i64 st,qd ss,.int .i64 lp]):=by
  unfold D.av;simp only[cB,j4,a3 5,s3 3,kj];rfl
 unfold fin;rw[if_pos rfl,h];exact⟨.p (.agg [ax ma,.int .i64 st,qd ss,.int .i64 lp]),rfl,rfl⟩
theorem Ym(t:Sl Int)(ht:t≠.cJ)(hl:O (els t)<=100000)(H:Hp):∃d' H1,au (call pg) 74 [.p (ax t)] H=Z (.val d',H1)/\fE H1 d' (els t)/\d'.bk=[]/\d'.one=true/\d'.cells=[d']/\((H1=H/\cK d'=[]/\d'.refs=[])\/(H1=⟨H.bx++[bz (els t)],H.tk⟩/\d'= .ae (O H.bx) 3 (O (els t)) 1)):=by
 cases t with
 |nil=>exact⟨_,H,ail H,.aj,rfl,rfl,rfl,.inl ⟨rfl,rfl,rfl⟩⟩
 |cJ=>exact absurd rfl ht
 |of l=>
  cases l with
  |nil=>exact⟨_,H,aim H,.emp,rfl,rfl,rfl,.inl ⟨rfl,rfl,rfl⟩⟩
  |cons x r=>
   have h:=ain x r (by simp[els] at hl;omega) H;refine⟨_,_,h,?_,rfl,rfl,rfl,.inr ⟨rfl,rfl⟩⟩;refine .row _ (x::r) ?_ (by simp);show(H.bx++[_])[O H.bx]? =_;simp[bz]
structure Gt where
 k:Int
 a:Int
 b:Int
deriving DecidableEq
def Gt.p(g:Gt):PD:=.agg [.int .i64 g.k,.int .i64 g.a,.int .i64 g.b]
def bq(s:Sl Gt):PD:=eh 3 (s.map Gt.p)
theorem pE(s:Sl Gt):dF 1 (.p (bq s))=Z (O (els s)):=nh 3 _ s
theorem vM{s:Sl Gt}{k:Nat}(h:k<O (els s)):dE Y 3 (.p (bq s)) (k:Int)=Z (.ro [.int .i64 (els s)[k].k,.int .i64 (els s)[k].a,.int .i64 (els s)[k].b] 0):=ni h
@[simp] theorem Cx(a:Sl Gt):(bq a).one=true:=nj 3 _
theorem akm(s:Sl Gt)(hi:i<O (els s))(he:(els s)[i]=⟨gk,ga,gb⟩):
    post (λo e H=>o= .ret/\H=⟨[[.p (.int .i64 gk),.p (.int .i64 ga),.p (.int .i64 gb)]],[]⟩/\e.get 4= .p (.int .i64 ((i:Nat):Int))) (aq (call pg) pg.G aM (bd sA 0) ⟨[(0,.p (bq s)),(3,.box 0 0),(7,.p (.int .i64 ((O (els s):Nat):Int))),(8,.p (.int .i64 ((i:Nat):Int)))],⟨[[.p (.int .i64 gk),.p (.int .i64 ga),.p (.int .i64 gb)]],[]⟩⟩):=by
 have ia:=vM hi;rw[he] at ia
 conv in bd sA 0=>reduce
 simp[ia,hi]
theorem akn(s:Sl Gt)(hl:O (els s)<4611686018427387904)(hi:i<O (els s))(he:(els s)[i]≠⟨gk,ga,gb⟩):
    post (nx [0,3,7,8] [(0,.p (bq s)),(3,.box 0 0),(7,.p (.int .i64 ((O (els s):Nat):Int))),(8,.p (.int .i64 ((i+1 :Nat):Int)))] ⟨[[.p (.int .i64 gk),.p (.int .i64 ga),.p (.int .i64 gb)]],[]⟩) (aq (call pg) pg.G aM (bd sA 0) ⟨[(0,.p (bq s)),(3,.box 0 0),(7,.p (.int .i64 ((O (els s):Nat):Int))),(8,.p (.int .i64 ((i:Nat):Int)))],⟨[[.p (.int .i64 gk),.p (.int .i64 ga),.p (.int .i64 gb)]],[]⟩⟩):=by
 have ia:=vM hi;have inc:=bt (k:=i) (by omega);generalize (els s)[i]=g at *;obtain⟨k,a,b⟩:=g;have hne:gk=k->ga=a->¬gb=b:=λh1 h2 h3=>he (by rw[h1,h2,h3])
 conv in bd sA 0=>reduce
 by_cases h1:gk=k
 .by_cases h2:ga=a
  .have h3:=hne h1 h2;simp[ia,hi,inc,h1,h2,h3]
  .simp[ia,hi,inc,h1,h2]
 .simp[ia,hi,inc,h1]
theorem ako(s:Sl Gt)(hl:O (els s)<4611686018427387904)(g:Gt):
    ∃k:Int,(∀H,au (call pg) 160 [.p (bq s),.p g.p] H=Z (.val (.p (.int .i64 k)),H))/\((k= -1/\∀j:Nat,(els s)[j]?≠Z g)\/∃j:Nat,k=(j:Int)/\(els s)[j]? =Z g):=by
 obtain⟨gk,ga,gb⟩:=g;have key:=zP (c:=call pg) (G:=pg.G) (keep:=[0,3,7,8]) (b:=bd sA 0) (λi=>[(0,.p (bq s)),(3,.box 0 0),(7,.p (.int .i64 ((O (els s):Nat):Int))),(8,.p (.int .i64 ((i:Nat):Int)))]) ⟨[[.p (.int .i64 gk),.p (.int .i64 ga),.p (.int .i64 gb)]],[]⟩ (O (els s))
  (λi=>(els s)[i]?≠Z ⟨gk,ga,gb⟩) 0 (λ_=>True) (λe=>∃j:Nat,e.get 4= .p (.int .i64 ((j:Nat):Int))/\(els s)[j]? =Z ⟨gk,ga,gb⟩) ?_ ?_ ?_
 .unfold Gt.p;dsimp only;have hb0:bd sA 0=bd sA 0:=rfl
  conv at hb0=>rhs;reduce
  have hf:sA=sA:=rfl
  conv at hf=>rhs;reduce
  rw[<-hb0] at hf;rcases key with⟨e,hx,-,hp⟩ |⟨e,hx,⟨j,h4,h5⟩,-⟩
  .refine⟨-1,aR (aa:=[_,_]) (WX.trans hf) rfl rfl rfl ?_,.inl ⟨rfl,λj=>?_⟩⟩
   .clear hf hb0;simp at hx;simp[pE,hx]
   .rcases fA j (O (els s)) with h |h
    .exact hp j h
    .rw[nS h];simp
  .refine⟨(j:Int),aR (aa:=[_,_]) (WX.trans hf) rfl rfl rfl ?_,.inr ⟨j,rfl,h5⟩⟩;clear hf hb0;simp at hx;simp[pE,hx,h4]
 .intro i hi hP;have he:(els s)[i]≠⟨gk,ga,gb⟩:=λh=>hP (by rw[aD hi,h]);simpa using akn s hl hi he
 .intro i hi hP;have he:(els s)[i]=⟨gk,ga,gb⟩:=by
   rw[aD hi] at hP;simpa using hP
  refine aG (akm s hi he) λo e H h=>?_;exact⟨h.1,h.2.1,i,h.2.2,by rw[aD hi,he]⟩
 .skip
  conv in bd sA 0=>reduce
  simp
theorem akp(av:Bool)(e:Nat)(es:List PD)(H:Hp):fin av (.fB e es) H (.fB e es):=by
 refine⟨.fB e es,?_,by simp[D.ren]⟩;cases av
 .rfl
 .simp[];rfl
theorem akq(l:List Gt)(hl:l≠[]):
    ∀H,au (call pg) 161 [.p (bq (.of l))] H=Z (.val (.fB 3 (l.map Gt.p)),H):=by
 have h3:Gj 3 (.p (bq (.of l))) Y (.p (.int .i64 ((O l:Nat):Int))) (.p (.int .i64 ((O l:Nat):Int)))=Z (.fB 3 (l.map Gt.p)):=by
  cases l with
  |nil=>exact absurd rfl hl
  |cons x r=>
   have h0:(0 :Int)<=(O (x::r):Int):=by omega
   simp only[Gj,D.lS,if_pos h0,sQ,if_true];have h1:(0 :Int)<=(O r:Int)+1:=by omega
   have h2:(x.p::r.map Gt.p).take (O r+1)=x.p::r.map Gt.p:=fK (by simp);simp[bq,eh,Sl.map,D.iR,kD,Vs.sub,h1,h2]
 have ll:dF 1 (.p (bq (.of l)))=Z (O l):=pE (.of l);have hf:O3=O3:=rfl
 conv at hf=>rhs;reduce
 refine aR (aa:=[_]) (ahq.trans hf) rfl rfl rfl ?_;clear hf;simp[ll,h3];exact akp _ _ _ _
theorem akr(l:List Gt):∀x∈l.map Gt.p,nI 3 x:=λx hx=>by
 obtain⟨y,_,rfl⟩:=cA.1 hx;exact .inr ⟨by decide,_,rfl,rfl⟩
variable{l:List Gt}
theorem aks{e:Nat}(hl:l≠[])(hb:H.bx[i]? =Z (((l.map Gt.p).flatMap PD.cells).map .p))(n:Nat):(D.ae i e (O l) 3).av 0 H (n+2)= .p (bq (.of l)):=by
 have hch:=vG (akr l);rw[bT] at hch;have hlen:∀l:List Gt,O (((l.map Gt.p).flatMap PD.cells).map D.p)=O l*3:=λl=>by
  induction l with
  |nil=>rfl
  |cons x r ih=>
   simp only[cB,sP,oJ,gG,ih,ew];simp[Gt.p,PD.cells];omega
 have hlen:=hlen l;have hs:Vs.sub (((l.map Gt.p).flatMap PD.cells).map D.p) 0 (0+O l*3)=((l.map Gt.p).flatMap PD.cells).map D.p:=by
  unfold Vs.sub;rw[pM,fK (by omega)]
 have h1:(((l.map Gt.p).flatMap PD.cells).map D.p).map (D.av 0 H (n+1))=((l.map Gt.p).flatMap PD.cells).map D.p:=by
  rw[pO];exact pN λp _=>kj 0 H (n+1) p
 unfold D.av;dsimp only;rw[if_pos (bD _),hb];dsimp only;rw[if_pos ⟨vg _,by omega,by omega⟩,hs,h1,tP];dsimp only;rw[hch];cases l with
 |nil=>exact absurd rfl hl
 |cons x r=>rfl
theorem akt(_:l≠[]){g:Gt}{j:Nat}(hj:j<1000000)(hi:∀H,au (call pg) 160 [.p (bq (.of l)),.p g.p] H=Z (.val (.p (.int .i64 ((j:Nat):Int))),H)):
    ∀H,au (call pg) 105 [.p (.agg [bq (.of l)]),.p g.p] H=Z (.val (.ba [.p (.agg [bq (.of l)]),.p (.int .i64 ((2*j:Nat):Int))]),H):=by
 have hw:IntKind.i64.wrap (2*(j:Int))=((2*j:Nat):Int):=by rw[wrap64 (by omega) (by omega)];rfl
 have hc:(bq (.of l)).cells=[bq (.of l)]:=qW (Cx _);obtain⟨gk,ga,gb⟩:=g;unfold Gt.p at hi|-;dsimp only at hi|-;have hf:E7=E7:=rfl
 conv at hf=>rhs;reduce
 refine aR (aa:=[_,_]) (WY.trans hf) rfl rfl rfl ?_;clear hf;simp[hi,hw]
theorem aku{e n:Nat}{x:Int}(hl:l≠[])(hb:H.bx[i]? =Z (((l.map Gt.p).flatMap PD.cells).map .p))(hn:n=O l):
    fin true (.ba [.agg [.ae i e n 3],.p (.int .i64 x)]) H (.ba [.p (.agg [bq (.of l)]),.p (.int .i64 x)]):=by
 subst hn;have h2:(D.agg [.ae i e (O l) 3]).av 0 H 7= .p (.agg [bq (.of l)]):=by
  unfold D.av;simp only[cB,j4,aks hl hb 4];rfl
 refine⟨.ba [.p (.agg [bq (.of l)]),.p (.int .i64 x)],?_,by simp[D.ren]⟩;have h3:(D.ba [.agg [.ae i e (O l) 3],.p (.int .i64 x)]).av 0 H 8= .ba [.p (.agg [bq (.of l)]),.p (.int .i64 x)]:=by
  unfold D.av;simp only[cB,j4,h2,kj]
 rw[if_pos rfl,h3];simp[D.ren]
theorem akv(hl:l≠[])(hn:O l<20000){g:Gt}(hi:∀H,au (call pg) 160 [.p (bq (.of l)),.p g.p] H=Z (.val (.p (.int .i64 (-1))),H)):
    ∀H,au (call pg) 105 [.p (.agg [bq (.of l)]),.p g.p] H=Z (.val (.ba [.p (.agg [bq (.of (l++[g]))]),.p (.int .i64 ((2*O l:Nat):Int))]),H):=by
 have hw:IntKind.i64.wrap (2*(O l:Int))=((2*O l:Nat):Int):=by rw[wrap64 (by omega) (by omega)];rfl
 have ll:dF 1 (.p (bq (.of l)))=Z (O l):=pE (.of l);have c1:=akq l hl;obtain⟨gk,ga,gb⟩:=g;have hr:roomy (O l+1) 24=true:=by simp[roomy];omega
 unfold Gt.p at hi;dsimp only at hi;have hf:E7=E7:=rfl
 conv at hf=>rhs;reduce
 have hg:Gt.p ⟨gk,ga,gb⟩= .agg [.int .i64 gk,.int .i64 ga,.int .i64 gb]:=rfl;rw[hg];refine aR (aa:=[_,_]) (WY.trans hf) rfl rfl rfl ?_;clear hf;have hlt:¬(20000 :Int)<=(O l:Int):=by omega
 simp[hi,hw,ll,c1,hlt,gX,dJ,dx,iT,hr];refine aku (l:=l++[⟨gk,ga,gb⟩]) ?_ ?_ ?_
 .simp
 .simp[Gt.p,PD.cells]
 .simp
theorem akw(hl:l≠[])(hn:O l<20000)(g:Gt):
    ∃(l':List Gt) (j:Nat),(∀H,au (call pg) 105 [.p (.agg [bq (.of l)]),.p g.p] H=Z (.val (.ba [.p (.agg [bq (.of l')]),.p (.int .i64 ((2*j:Nat):Int))]),H))/\l'[j]? =Z g/\(l'=l\/l'=l++[g]):=by
 obtain⟨k,h1,⟨rfl,h2⟩ |⟨j,rfl,h2⟩⟩:=ako (.of l) (by simp only[els];omega) g
 .exact⟨l++[g],O l,akv hl hn h1,by simp,.inr rfl⟩
 .have hj:j<O l:=(af.1 h2).1;exact⟨l,j,akt hl (by omega) h1,h2,.inl rfl⟩
theorem akx(hl:l≠[])(hn:O l<20000)(h1:1<=v)(h2:v<=20000):
    ∃(l':List Gt) (j:Nat),(∀H,au (call pg) 57 [.p (.agg [bq (.of l)]),.p (.int .i64 ((v:Nat):Int))] H=Z (.val (.ba [.p (.agg [bq (.of l')]),.p (.int .i64 ((2*j:Nat):Int))]),H))/\l'[j]? =Z ⟨1,v,0⟩/\(l'=l\/l'=l++[⟨1,v,0⟩]):=by
 obtain⟨l',j,c,q1,q2⟩:=akw hl hn ⟨1,v,0⟩;refine⟨l',j,?_,q1,q2⟩;have hg:Gt.p ⟨1,v,0⟩= .agg [.int .i64 1,.int .i64 (v:Int),.int .i64 0]:=rfl;rw[hg] at c;have i1:¬((v:Int)<1):=by omega
 have i2:¬((20000 :Int)<(v:Int)):=by omega
 generalize ((v:Nat):Int)=vi at *;have hf:O4=O4:=rfl
 conv at hf=>rhs;reduce
 refine aR (aa:=[_,_]) (e57.trans hf) rfl rfl rfl ?_;clear hf;simp[c,i1,i2]
def Ae(g:Gt)(i:Nat):Prop:=(g.k=1/\1<=g.a/\g.a<=20000/\g.b=0)\/(g.k=2/\2<=g.a/\g.a<g.b/\g.b<2*(i:Int))
theorem aky(g:Gt)(hi:i<1000000):∃r:Bool,(∀H,au (call pg) 51 [.p g.p,.p (.int .i64 ((i:Nat):Int))] H=Z (.val (.p (.bool r)),H))/\(r=true->Ae g i):=by
 obtain⟨gk,ga,gb⟩:=g;have hw:IntKind.i64.wrap (2*(i:Int))=2*(i:Int):=wrap64 (by omega) (by omega);unfold Gt.p Ae;dsimp only;have hf:O6=O6:=rfl
 conv at hf=>rhs;reduce
 refine xn (y:=λr=>.p (.bool r)) (R:=λr=>r=true->_) (aa:=[_,_]) (e51.trans hf) rfl rfl rfl ?_;clear hf;by_cases h1:gk=1
 .by_cases h2:1<=ga
  .by_cases h3:ga<=20000
   .by_cases h4:gb=0
    .simp[h1,h2,h3,h4]
    .simp[h1,h2,h3,h4]
   .simp[h1,h2,h3]
  .simp[h1,h2]
 .by_cases h2:gk=2
  .by_cases h3:2<=ga
   .by_cases h4:ga<gb
    .by_cases h5:gb<2*(i:Int)
     .simp[h2,h3,h4,h5,hw];exact Classical.em _
     .simp[h2,h3,h4,h5,hw]
    .simp[h2,h3,h4]
   .simp[h2,h3]
  .simp[h1,h2]
theorem akz(s:Sl Gt)(hl:O (els s)<4611686018427387904)(g:Gt):∃k:Int,∀H,au (call pg) 52 [.p (.agg [bq s]),.p g.p] H=Z (.val (.p (.int .i64 k)),H):=by
 obtain⟨gk,ga,gb⟩:=g;have ll:=pE s;have key:=mL (c:=call pg) (G:=pg.G) (keep:=[2,3,5]) (b:=bd xp 0) (λi=>[(2,.box 0 0),(3,.box 1 0),(5,.p (.int .i64 ((i:Nat):Int)))]) ⟨[[.p (bq s)],[.p (.int .i64 gk),.p (.int .i64 ga),.p (.int .i64 gb)]],[]⟩ (O (els s))
  (λ_=>True) 0 (λ_=>True) (λe=>∃j:Nat,e.get 4= .p (.int .i64 ((j:Nat):Int))) ?_ ?_
 .unfold Gt.p;dsimp only;have hb0:bd xp 0=bd xp 0:=rfl
  conv at hb0=>rhs;reduce
  have hf:xp=xp:=rfl
  conv at hf=>rhs;reduce
  rw[<-hb0] at hf;rcases key with⟨e,hx,-,-⟩ |⟨e,hx,⟨j,h4⟩⟩
  .refine⟨-1,aR (aa:=[_,_]) (WZ.trans hf) rfl rfl rfl ?_⟩;clear hf hb0;simp at hx;simp[hx]
  .refine⟨(j:Int),aR (aa:=[_,_]) (WZ.trans hf) rfl rfl rfl ?_⟩;clear hf hb0;simp at hx;simp[hx,h4]
 .intro i hi;have ia:=vM hi;have inc:=bt (k:=i) (by omega);generalize (els s)[i]=g at *;obtain⟨k,a,b⟩:=g
  conv in bd xp 0=>reduce
  by_cases h1:k=gk
  .by_cases h2:a=ga
   .by_cases h3:b=gb
    .simp[ll,ia,hi,h1,h2,h3]
    .simp[ll,ia,hi,inc,h1,h2,h3]
   .simp[ll,ia,hi,inc,h1,h2]
  .simp[ll,ia,hi,inc,h1]
 .skip
  conv in bd xp 0=>reduce
  simp[ll]
def vN(l:List Gt):Prop:=l≠[]/\l[0]? =Z ⟨0,0,0⟩/\∀(i:Nat) g,1<=i->l[i]? =Z g->Ae g i
theorem akA(s:Sl Gt)(hl:O (els s)<=60):∃r:Bool,(∀H,au (call pg) 13 [.p (.agg [bq s])] H=Z (.val (.p (.bool r)),H))/\(r=true->∃l,s= .of l/\vN l):=by
 have ll:=pE s;by_cases h0:O (els s)=0
 .rw[h0] at ll;have hb0:bd nC 0=bd nC 0:=rfl
  conv at hb0=>rhs;reduce
  have hf:nC=nC:=rfl
  conv at hf=>rhs;reduce
  rw[<-hb0] at hf;refine⟨false,aR (aa:=[_]) (JW.trans hf) rfl rfl rfl ?_,by simp⟩;clear hf hb0;simp[ll]
 obtain⟨l,rfl⟩:∃l,s= .of l:=by
  cases s with
  |nil=>exact absurd rfl h0
  |cJ=>exact absurd rfl h0
  |of l=>exact⟨l,rfl⟩
 have iZ:els (.of l)=l:=rfl;rw[iZ] at h0 hl ll;have hne:l≠[]:=λh=>h0 (by rw[h];rfl);have h0l:0<O l:=by omega
 have xL:dE Y 3 (.p (bq (.of l))) 0=Z (.ro [.int .i64 l[0].k,.int .i64 l[0].a,.int .i64 l[0].b] 0):=vM (s:=.of l) (k:=0) h0l;have uS:¬((O l:Int)=0):=by omega
 have bJ:¬(20000<(O l:Int)):=by omega
 have key:=mL (c:=call pg) (G:=pg.G) (keep:=[1,3]) (b:=bd nC 0) (λi=>[(1,.box 0 0),(3,.p (.int .i64 ((i+1 :Nat):Int)))]) ⟨[[.p (bq (.of l))]],[]⟩ (O l-1)
  (λi=>∀g,l[i+1]? =Z g->Ae g (i+1)) 0 (λ_=>True) (λe=>e.get 2= .p (.bool false)) ?_ ?_
 .generalize hg:l[0]=g0 at *;obtain⟨gk,ga,gb⟩:=g0;dsimp only at xL;by_cases hz:gk=0/\ga=0/\gb=0
  .obtain⟨rfl,rfl,rfl⟩:=hz;have hq:l[0]? =Z ⟨0,0,0⟩:=by rw[aD h0l,hg]
   have hb0:bd nC 0=bd nC 0:=rfl
   conv at hb0=>rhs;reduce
   have hf:nC=nC:=rfl
   conv at hf=>rhs;reduce
   rw[<-hb0] at hf;rcases key with⟨e,hx,-,hp⟩ |⟨e,hx,h2⟩
   .refine⟨true,aR (aa:=[_]) (JW.trans hf) rfl rfl rfl ?_,λ_=>⟨l,rfl,hne,hq,λi g r8 hi=>?_⟩⟩
    .clear hf hb0;simp at hx;simp[ll,xL,hne,bJ,hx]
    .obtain⟨i,rfl⟩:∃n,i=n+1:=⟨i-1,by omega⟩;have:=(af.1 hi).1;exact hp i (by omega) g hi
   .refine⟨false,aR (aa:=[_]) (JW.trans hf) rfl rfl rfl ?_,by simp⟩;clear hf hb0;simp at hx;simp[ll,xL,hne,bJ,hx,h2]
  .skip
   have hb0:bd nC 0=bd nC 0:=rfl
   conv at hb0=>rhs;reduce
   have hf:nC=nC:=rfl
   conv at hf=>rhs;reduce
   rw[<-hb0] at hf;refine⟨false,aR (aa:=[_]) (JW.trans hf) rfl rfl rfl ?_,by simp⟩;clear hf hb0;by_cases h1:gk=0
   .by_cases h2:ga=0
    .have h3:¬gb=0:=λh3=>hz ⟨h1,h2,h3⟩;simp[ll,xL,hne,bJ,h1,h2,h3]
    .simp[ll,xL,hne,bJ,h1,h2]
   .simp[ll,xL,hne,bJ,h1]
 .intro i hi;have hi':i+1<O l:=by omega
  have ia:dE Y 3 (.p (bq (.of l))) ((i+1 :Nat):Int)=Z (.ro [.int .i64 l[i+1].k,.int .i64 l[i+1].a,.int .i64 l[i+1].b] 0):=vM (s:=.of l) hi';obtain⟨r,c1,c2⟩:=aky l[i+1] (i:=i+1) (by omega);obtain⟨k,c3⟩:=akz (.of l) (by rw[iZ];omega) l[i+1];have inc:=bt (k:=i+1) (by omega);have hgi:l[i+1]? =Z l[i+1]:=aD hi';unfold Gt.p at c1 c3;rw[hgi];generalize l[i+1]=g at *;have hlt:((i+1 :Nat):Int)<(O l:Int):=by omega
  generalize ((i+1 :Nat):Int)=iI at *;generalize ((i+1+1 :Nat):Int)=iJ at *
  conv in bd nC 0=>reduce
  cases r with
  |false=>simp[ll,ia,c1,c3,hlt]
  |true=>
   have hG:=c2 rfl;by_cases h1:k<iI
   .simp[ll,ia,c1,c3,hlt,h1]
   .simp[ll,ia,c1,c3,inc,hlt,h1];exact hG
 .have hlt:¬(((O l-1+1 :Nat):Int)<(O l:Int)):=by omega
  generalize ((O l-1+1 :Nat):Int)=iI at *
  conv in bd nC 0=>reduce
  simp[ll,hlt]
def iP(l:List Bool):List D:=(l.map PD.bool).map .p
theorem Cy(l:List Bool):O (iP l)=O l:=by simp[iP]
theorem Cz(l:List Bool):ay (iP l)=false:=vg (l.map PD.bool)
theorem akC(f g:Nat->Option Nat)(l:List Bool):D.aZ f g (iP l)=Z (iP l):=qO _ _ (l.map PD.bool)
theorem akD(l:List Bool):D.ai (iP l)=[]:=qP (l.map PD.bool)
theorem akE(l:List Bool):D.aC (iP l)=[]:=tB (l.map PD.bool)
theorem akF{l:List Bool}{k:Nat}(h:k<O l):(iP l)[k]? =Z (.p (.bool l[k])):=by simp[iP,h]
theorem KF(l:List Bool)(b:Bool):iP l++[.p (.bool b)]=iP (l++[b]):=by simp[iP]
theorem akG(l:List Bool):(iP l).take (O l)=iP l:=fK (by rw[Cy];exact aK _)
theorem vO(i e n sz:Nat):ay [.ae i e n sz]=false:=rfl
theorem akH{n k:Nat}(h:k<n):dE Y 1 (.ae i 4 n 1) (k:Int)=Z (.box i k):=by
 simp[dE,h]
def oF(ds:List Bool)(a:Nat):Bool:=ds.getD (a/2) false !=decide (a%2=1)
theorem v93(h:a/2<O ds)(ha:a<1000000):
    call pg 93 [.p (.int .i64 ((a:Nat):Int)),.box 0 0] ⟨[[.ae 1 4 (O ds) 1],iP ds],[]⟩=Z (.val (.p (.bool (oF ds a))),⟨[[.ae 1 4 (O ds) 1],iP ds],[]⟩):=by
 have h3:IntKind.i64.wrap ((a:Int)/2)=((a/2 :Nat):Int):=by rw[wrap64 (by omega) (by omega)];rfl
 have ia:=akH (i:=1) h;have hg:=akF h;have hr:oF ds a=(ds[a/2]!=decide (a%2=1)):=by simp[oF,im,h]
 rw[hr];generalize ds[a/2]=b at *;generalize ((a/2 :Nat):Int)=dI at *;have hf:O8=O8:=rfl
 conv at hf=>rhs;reduce
 refine Gy rfl (e93.trans hf) rfl rfl ?_;clear hf;have hm:a%2=0\/a%2=1:=by omega
 rcases hm with hm |hm
 .have h2:(a:Int).tmod 2=0:=by rw[show(a:Int).tmod 2=((a%2 :Nat):Int) from rfl,hm];rfl
  rw[hm];simp[-ay,vO,Cz,h2,h3,ia,hg]
 .have h2:(a:Int).tmod 2=1:=by rw[show(a:Int).tmod 2=((a%2 :Nat):Int) from rfl,hm];rfl
  rw[hm];simp[-ay,vO,Cz,h2,h3,ia,hg]
theorem Yn{k n:Nat}(qY:b≠k)(hb:H.bx[b]? =Z [.ae k 4 n 1])(hk:H.bx[k]? =Z (iP ds)):reach H (O H.bx) [b]=[b,k]:=by
 have uI:=(af.1 hb).1;obtain⟨m,hm⟩:∃m,O H.bx=m+1:=⟨O H.bx-1,by omega⟩;have hkb:¬k=b:=λh=>qY h.symm;have oX:nu H [b,k]:=by
  intro i hi cs hcs x hx;simp only[cq,iC,or_false] at hi|-;rcases hi with rfl |rfl
  .rw[hb] at hcs;cases hcs;have :x=k:=by simpa[D.ai,D.refs] using hx
   exact .inr this
  .rw[hk] at hcs;cases hcs;rw[akD] at hx;cases hx
 rw[hm];simp only[reach,eQ,hb,D.ai,D.refs,iQ,ins];simp[hkb,Ei oX]
theorem Qa{k:Nat}(qY:b≠k)(hb:H.bx[b]? =Z [.ae k 4 (O ds) 1])(hk:H.bx[k]? =Z (iP ds))(h:a/2<O ds)(ha:a<1000000):
    au (call pg) 93 [.p (.int .i64 ((a:Nat):Int)),.box b 0] H=Z (.val (.p (.bool (oF ds a))),H):=by
 have hc:=v93 h ha;have uI:=(af.1 hb).1;have hkb:¬k=b:=λh=>qY h.symm;have hr2:=Yn qY hb hk;have eJ:(H.bx.set b [.ae k 4 (O ds) 1]).set k (iP ds)=H.bx:=by
  apply lO;intro m;rw[nU,Ge];split
  .rename_i e;subst e;obtain⟨q,_⟩:=af.1 hk;rw[if_pos q,hk]
  .rw[nU];split
   .rename_i e;subst e;exact hb.symm
   .rfl
 have e1:ins [] (D.ai [.p (.int .i64 ((a:Nat):Int)),.box b 0])=[b]:=by simp[D.ai,D.refs,ins]
 have e2:nodupB [b,k]=true:=by simp[nodupB,qY]
 generalize O ds=n at *;generalize ((a:Nat):Int)=m1 at *;generalize oF ds a=r at *;unfold au;simp only[e1,hr2];simp[D.aC,D.bk,gM,hb,hk,akE,ins,nodupB,idx,qY,D.aZ,D.ren,aH,akC,hc,back,iD,bR.ren,bZ,eJ]
def Af(vs ds:List Bool)(g:Gt):Bool:=if g.k=1 then vs.getD (g.a-1).toNat false else oF ds g.a.toNat&&oF ds g.b.toNat

variable{vs : Sl Bool}  {rI : Int}
def oG(vs:Sl Bool)(l:List Gt)(rI:Int)(q i:Nat):Env:=[(1,.p (dr vs)),(2,.p (.int .i64 rI)),(7,.box q 0),(8,.fn 93 [] [.box q 0]),(27,.p (bq (.of l))),(28,.p (.int .i64 ((O l:Nat):Int))),(29,.p (.int .i64 ((i:Nat):Int)))]
def gD(g:Gt):List D:=[.p (.int .i64 g.k),.p (.int .i64 g.a),.p (.int .i64 g.b)]
theorem akI(h0:l[0]? =Z ⟨0,0,0⟩)(x:PD):
    post (nx [1,2,7,8,27,28,29] (oG vs l rI 1 1) ⟨[[.p x],[.ae 3 4 1 1],[.p (.int .i64 0),.p (.int .i64 0),.p (.int .i64 0)],iP [true]],[]⟩) (aq (call pg) pg.G aM (bd pA 0) ⟨oG vs l rI 1 0,⟨[[.p x],[.p .aj]],[]⟩⟩):=by
 obtain⟨hl,he⟩:=af.1 h0;have ia:=vM (s:=.of l) hl;have Dl:(els (.of l))[0]=⟨0,0,0⟩:=he;rw[Dl] at ia;have hlt:(0 :Int)<(O l:Int):=by omega
 have hne:l≠[]:=λh=>by rw[h] at hl;simp at hl
 have w1:IntKind.i64.wrap 1=1:=by decide
 unfold oG
 conv in bd pA 0=>reduce
 simp at ia;simp[ia,hl,w1,gX,dJ,dx,iT,roomy,iP]
theorem akJ{q k:Nat}{g:Gt}(hb:H.bx[q]? =Z [.ae k 4 (O ds) 1])(hk:H.bx[k]? =Z (iP ds))(eF:k≠q)(ht:H.tk=[])(hd:O ds=i)(r8:1<=i)(hg:l[i]? =Z g)(Ag:Ae g i)(hl:O l<20000)(nG:O H.bx<900000)(_:O (els vs)<4611686018427387904):
    post (nx [1,2,7,8,27,28,29] (oG vs l rI q (i+1)) ⟨((((H.bx++[gD g]).set k [])++[iP (ds++[Af (els vs) ds g])]).set q [.ae (O H.bx+1) 4 (O ds+1) 1]),[]⟩) (aq (call pg) pg.G aM (bd pA 0) ⟨oG vs l rI q i,H⟩):=by
 obtain⟨cW,he⟩:=af.1 hg;have ia:=vM (s:=.of l) cW;have Dl:(els (.of l))[i]=g:=he;rw[Dl] at ia;have inc:=bt (k:=i) (by omega);obtain⟨bx,tk⟩:=H;dsimp only at ht hb hk nG;have h6:O bx+1<1000000:=by omega
 have vH:∀n:Nat,¬(3+2*n=2):=λn=>by omega
 subst ht;have ri:=(af.1 hb).1;have eM:=(af.1 hk).1;have xM:∀c:List D,(bx++[c])[q]? =Z [.ae k 4 (O ds) 1]:=λc=>by rw[aT ri,hb]
 have Ah:∀c:List D,(bx++[c])[k]? =Z (iP ds):=λc=>by rw[aT eM,hk]
 have KG:∀c r:List D,((bx++[c]).set k []++[r])[q]? =Z [.ae k 4 (O ds) 1]:=λc r=>by
  rw[aT (by simp;omega),bp eF,xM]
 have hne:iP ds≠[]:=λh=>by
  have:=Cy ds;rw[h] at this;simp at this;omega
 have hr:roomy (O ds+1) 1=true:=by simp[roomy];omega
 have aO:=akG ds;have rj:¬(O ds+1<=O ds):=by omega
 have hlt:(i:Int)<(O l:Int):=by omega
 obtain⟨gk,ga,gb⟩:=g;unfold Ae at Ag;unfold gD;dsimp only at ia Ag|-;have hv:Af (els vs) ds ⟨gk,ga,gb⟩=if gk=1 then(els vs).getD (ga-1).toNat false else oF ds ga.toNat&&oF ds gb.toNat:=rfl
 rcases Ag with⟨rfl,g2,g3,rfl⟩ |⟨rfl,g2,g3,g4⟩
 .rw[if_pos rfl] at hv;obtain⟨v,rfl⟩:∃v:Nat,ga=((v+1 :Nat):Int):=⟨ga.toNat-1,by omega⟩;have wO:(((v+1 :Nat):Int)-1).toNat=v:=by omega
  rw[wO] at hv;have hw:IntKind.i64.wrap (((v+1 :Nat):Int)-1)=((v:Nat):Int):=by rw[wrap64 (by omega) (by omega)];omega
  unfold oG;by_cases h:v<O (els vs)
  .have h2:(((v+1 :Nat):Int))<=((O (els vs):Nat):Int):=by omega
   have h3:(els vs).getD v false=(els vs)[v]:=by simp[im,h]
   rw[h3] at hv;have iv:=PB h;generalize (els vs)[v]=bv at *;generalize Af (els vs) ds ⟨1,((v+1 :Nat):Int),0⟩=gv at *;subst hv;generalize ((v+1 :Nat):Int)=m1 at *;generalize ((i:Nat):Int)=iI at *;generalize ((i+1 :Nat):Int)=iJ at *
   conv in bd pA 0=>reduce
   simp[-ay,vO,fw,Cz,ia,inc,hlt,xM,Ah,KG,hne,hr,aO,rj,h6,vH,Ce,h2,iv,hw,gX,dJ,dx,Cy,KF]
  .have h2:¬(((v+1 :Nat):Int))<=((O (els vs):Nat):Int):=by omega
   have h3:(els vs).getD v false=false:=by simp[im,h]
   rw[h3] at hv;generalize Af (els vs) ds ⟨1,((v+1 :Nat):Int),0⟩=gv at *;subst hv;generalize ((v+1 :Nat):Int)=m1 at *;generalize ((i:Nat):Int)=iI at *;generalize ((i+1 :Nat):Int)=iJ at *
   conv in bd pA 0=>reduce
   simp[-ay,vO,fw,Cz,ia,inc,hlt,xM,Ah,KG,hne,hr,aO,rj,h6,vH,Ce,h2,gX,dJ,dx,Cy,KF]
 .rw[if_neg (by decide)] at hv;obtain⟨a,rfl⟩:∃a:Nat,ga=(a:Int):=⟨ga.toNat,by omega⟩;obtain⟨b,rfl⟩:∃b:Nat,gb=(b:Int):=⟨gb.toNat,by omega⟩;rw[sQ,sQ] at hv;have c1:au (call pg) 93 [.p (.int .i64 ((a:Nat):Int)),.box q 0] ⟨bx++[[.p (.int .i64 2),.p (.int .i64 ((a:Nat):Int)),.p (.int .i64 ((b:Nat):Int))]],[]⟩=_:=Qa (Ne.symm eF) (xM _) (Ah _) (by omega) (by omega);have c2:au (call pg) 93 [.p (.int .i64 ((b:Nat):Int)),.box q 0] ⟨bx++[[.p (.int .i64 2),.p (.int .i64 ((a:Nat):Int)),.p (.int .i64 ((b:Nat):Int))]],[]⟩=_:=Qa (Ne.symm eF) (xM _) (Ah _) (by omega) (by omega);have uE:∀c:List D,reach ⟨bx++[c],[]⟩ (O bx+1) [q]=[q,k]:=λc=>by
   have:=Yn (H:=⟨bx++[c],[]⟩) (Ne.symm eF) (xM c) (Ah c);simpa using this
  unfold oG;generalize Af (els vs) ds ⟨2,(a:Int),(b:Int)⟩=gv at *;generalize oF ds a=ra at *;generalize oF ds b=rb at *;subst hv;generalize ((a:Nat):Int)=aI at *;generalize ((b:Nat):Int)=bI at *;generalize ((i:Nat):Int)=iI at *;generalize ((i+1 :Nat):Int)=iJ at *
  conv in bd pA 0=>reduce
  cases ra with
  |false=>simp[-ay,vO,fw,Cz,ia,inc,hlt,xM,Ah,KG,hne,hr,aO,rj,h6,vH,c1,fM,iW,uE,ins,gX,dJ,dx,Cy,KF]
  |true=>simp[-ay,vO,fw,Cz,ia,inc,hlt,xM,Ah,KG,hne,hr,aO,rj,h6,vH,c1,c2,fM,iW,uE,ins,gX,dJ,dx,Cy,KF]

end Go.Proofs.YtgplgbonlnodeaaGreatDoor

namespace Go.Proofs.YtgplgbonlnodeaaGreatDoor

variable{l:List Gt}
variable{vs : Sl Bool}  {rI : Int}
theorem akK{k:Nat}(h1:0<k)(h2:k<=O l):yf 3 (.p (bq (.of l))) Y (Z (.p (.int .i64 ((k:Nat):Int))))=Z (.p (bq (.of (l.take k)))):=by
 obtain⟨n,rfl⟩:∃n,k=n+1:=⟨k-1,by omega⟩;cases l with
 |nil=>simp at h2
 |cons x r=>
  have h3:n<=O r:=by simpa using h2
  have h4:(0 :Int)<=(n:Int)+1:=by omega
  have h5:((n:Int)+1).toNat=n+1:=by omega
  simp[bq,eh,Sl.map,yf,D.iR,kD,D.lS,Vs.sub,h3,h4,h5]
theorem akL(q i:Nat):(oG vs l rI q i).keep [1,2,7,8,27,28,29]=oG vs l rI q i:=rfl
def KH(vs:Sl Bool)(l:List Gt)(q i:Nat)(H:Hp):Prop:=
 ∃(k:Nat) (ds:List Bool),H.bx[q]? =Z [.ae k 4 (O ds) 1]/\H.bx[k]? =Z (iP ds)/\k≠q/\H.tk=[]/\O ds=i/\O H.bx<=4+2*i/\ds[0]? =Z true/\
  ∀j v:Nat,l[j]? =Z ⟨1,v,0⟩->j<i->ds[j]? =Z ((els vs).getD (v-1) false)
theorem akM{H:Hp}{q i:Nat}{g:Gt}(h:KH vs l q i H)(r8:1<=i)(hg:l[i]? =Z g)(Ag:Ae g i)(hl:O l<20000)(n9:O (els vs)<4611686018427387904):
    ∃H2,KH vs l q (i+1) H2/\post (nx [1,2,7,8,27,28,29] (oG vs l rI q (i+1)) H2) (aq (call pg) pg.G aM (bd pA 0) ⟨oG vs l rI q i,H⟩):=by
 obtain⟨k,ds,hb,hk,tR,ht,hd,nG,h0,hv⟩:=h;have cW:=(af.1 hg).1;have tS:=(af.1 hb).1;refine⟨_,?_,akJ hb hk tR ht hd r8 hg Ag hl (by omega) n9⟩;refine⟨O H.bx+1,ds++[Af (els vs) ds g],?_,?_,by omega,rfl,by simp;omega,by simp;omega,?_,λj v hj lF=>?_⟩
 .dsimp only;rw[eA (by simp;omega)];simp
 .dsimp only;rw[bp (by omega),cR (by simp)];simp
 .rw[aT (by omega),h0]
 .rcases fA j i with h |h
  .rw[aT (by omega)];exact hv j v hj h
  .have :j=i:=by omega
   subst this;rw[hg] at hj;cases hj;have wO:((v:Int)-1).toNat=v-1:=by omega
   rw[cR (by omega),hd];simp[Af,wO]
theorem Yo(hc:vN l)(hl:O l<20000)(vs:Sl Bool)(n9:O (els vs)<4611686018427387904){j:Nat}(hj:j<O l):
    ∃r:Bool,(∀H,au (call pg) 36 [.p (.agg [bq (.of l)]),.p (dr vs),.p (.int .i64 ((2*j:Nat):Int))] H=Z (.val (.p (.bool r)),H))/\(j=0->r=true)/\∀v:Nat,l[j]? =Z ⟨1,v,0⟩->r=(els vs).getD (v-1) false:=by
 obtain⟨hne,h0,Ag⟩:=hc;have key:post (λo e H'=>o= .exit 0/\e.get 8= .fn 93 [] [.box 1 0]/\e.get 2= .p (.int .i64 ((2*j:Nat):Int))/\KH vs (l.take (j+1)) 1 (j+1) H') (dB (call pg) pg.G [1,2,7,8,27,28,29] (bd pA 0) ⟨oG vs (l.take (j+1)) ((2*j:Nat):Int) 1 0,⟨[[.p (bq (.of l))],[.p .aj]],[]⟩⟩):=by
  have hl':O (l.take (j+1))=j+1:=by rw[kY];omega
  refine dT (c:=call pg) (G:=pg.G) (σ:=Nat×Hp) (λs=>oG vs (l.take (j+1)) ((2*j:Nat):Int) 1 s.1) (λs=>s.2) (λs=>j+1-s.1)
   (λs=>(s.1=0/\s.2=⟨[[.p (bq (.of l))],[.p .aj]],[]⟩)\/(1<=s.1/\s.1<=j+1/\KH vs (l.take (j+1)) 1 s.1 s.2)) _ ?_ (0,_) (.inl ⟨rfl,rfl⟩)
  rintro⟨i,H⟩ hI;dsimp only at hI|-;rw[akL];rcases hI with⟨rfl,rfl⟩ |⟨h1,h2,hD⟩
  .have Yp:(l.take (j+1))[0]? =Z ⟨0,0,0⟩:=by rw[kX (by omega),h0]
   refine aG (akI Yp _) λo e H' hh=>.inl ⟨(1,_),.inr ⟨aK _,by dsimp only;omega,?_⟩,by dsimp only;omega,hh⟩;refine⟨3,[true],rfl,rfl,by omega,rfl,rfl,by simp,rfl,λj v hj lF=>?_⟩;have :j=0:=by omega
   subst this;rw[Yp] at hj;simp at hj
  .rcases fA i (j+1) with h |h
   .have cW:i<O l:=by omega
    have hg:(l.take (j+1))[i]? =Z l[i]:=by rw[kX h,aD cW]
    obtain⟨H2,q1,q2⟩:=akM (rI:=((2*j:Nat):Int)) hD h1 hg (Ag i _ h1 (aD cW)) (by omega) n9;exact aG q2 λo e H' hh=>.inl ⟨(i+1,H2),.inr ⟨by dsimp only;omega,by dsimp only;omega,q1⟩,by dsimp only;omega,hh⟩
   .have hi:i=j+1:=by omega
    subst hi;refine aG (Q:=λo e H'=>o= .exit 0/\e.get 8= .fn 93 [] [.box 1 0]/\e.get 2= .p (.int .i64 ((2*j:Nat):Int))/\H'=H) ?_ λo e H' hh=>.inr ⟨by rw[hh.1];simp,hh.1,hh.2.1,hh.2.2.1,hh.2.2.2▸hD⟩;unfold oG;rw[hl'];generalize ((2*j:Nat):Int)=rI;generalize ((j+1 :Nat):Int)=jI
    conv in bd pA 0=>reduce
    simp
 obtain⟨o,e,H',hx,rfl,h8,h2,k,ds,hb,hk,tR,ht,hd,nG,eW,hv⟩:=bC key;have Qb:j<O ds:=by omega
 have cV:=Qa (Ne.symm tR) hb hk (a:=2*j) (by omega) (by omega);have hr:oF ds (2*j)=ds[j]:=by
  have e1:2*j/2=j:=by omega
  have e2:2*j%2=0:=by omega
  simp[oF,e1,e2,im,Qb]
 refine⟨oF ds (2*j),?_,λh=>?_,λv h=>?_⟩
 .have hs:=akK (l:=l) (k:=j+1) (by omega) (by omega);have ll:dF 1 (.p (bq (.of l)))=Z (O l):=pE (.of l);have ll2:dF 1 (.p (bq (.of (l.take (j+1)))))=Z (j+1):=by
   rw[pE];simp only[els,kY];congr 1;omega
  have hl':O (l.take (j+1))=j+1:=by rw[kY];omega
  have q1:((2*j:Nat):Int).tdiv 2=(j:Int):=by
   rw[show((2*j:Nat):Int).tdiv 2=((2*j/2 :Nat):Int) from rfl];congr 1;omega
  have q2:IntKind.i64.wrap (j:Int)=j:=wrap64 (by omega) (by omega);have q3:IntKind.i64.wrap ((j+1 :Nat):Int)=((j+1 :Nat):Int):=wrap64 (by omega) (by omega);have M9:(j:Int)+1=((j+1 :Nat):Int):=by omega
  have q4:IntKind.i64.wrap (2*(O l:Int))=2*(O l:Int):=wrap64 (by omega) (by omega);have q5:¬((2*j:Nat):Int)<0:=by omega
  have q6:¬2*(O l:Int)<=((2*j:Nat):Int):=by omega
  unfold oG at hx;rw[hl'] at hx;generalize oF ds (2*j)=rr at *;generalize ((j+1 :Nat):Int)=j1 at *;generalize ((2*j:Nat):Int)=rI at *;have hb0:bd pA 0=bd pA 0:=rfl
  conv at hb0=>rhs;reduce
  have hf:pA=pA:=rfl
  conv at hf=>rhs;reduce
  rw[<-hb0] at hf;refine aR (aa:=[_,_,_]) (e36.trans hf) rfl rfl rfl ?_;clear hf hb0;simp at hx;simp[ll,ll2,hs,M9,q1,q2,q3,q4,q5,q6,hx,h8,h2,fM,cV]
 .subst h;rw[hr];have:=aD Qb;rw[eW] at this;exact(nQ this).symm
 .rw[hr];have h3:(l.take (j+1))[j]? =Z ⟨1,v,0⟩:=by rw[kX (by omega),h]
  have h4:=hv j v h3 (by omega);rw[aD Qb] at h4;exact nQ h4

end Go.Proofs.YtgplgbonlnodeaaGreatDoor

namespace Go.Proofs.YtgplgbonlnodeaaGreatDoor
def Qc(c:Int×Int):PD:=.agg [.int .i64 c.1,.int .i64 c.2]
def rp(s:Sl (Int×Int)):PD:=eh 2 (s.map Qc)
theorem Qd(s:Sl (Int×Int)):dF 1 (.p (rp s))=Z (O (els s)):=nh 2 _ s
theorem KJ{s:Sl (Int×Int)}{k:Nat}(h:k<O (els s)):dE Y 2 (.p (rp s)) (k:Int)=Z (.ro [.int .i64 (els s)[k].1,.int .i64 (els s)[k].2] 0):=ni h
@[simp] theorem arW(a:Sl (Int×Int)):(rp a).one=true:=nj 2 _
structure Mx where
 ar:Int
 cs:Sl (Int×Int)
def Mx.p(m:Mx):PD:=.agg [.int .i64 m.ar,rp m.cs]
theorem akO(l:List Gt){H:Hp}{q:Nat}(hb:H.bx[q]? =Z [.p (bq (.of l))]):au (call pg) 94 [.box q 0] H=Z (.val (.p (.int .i64 ((O l:Nat):Int))),H):=by
 have ll:dF 1 (.p (bq (.of l)))=Z (O l):=pE (.of l);have tS:=(af.1 hb).1;have dG:∀k,call pg 94 [.box 0 0] ⟨[[.p (bq (.of l))]],k⟩=Z (.val (.p (.int .i64 ((O l:Nat):Int))),⟨[[.p (bq (.of l))]],k⟩):=by
  intro k;have hf:O9=O9:=rfl
  conv at hf=>rhs;reduce
  refine aax rfl (e94.trans hf) rfl rfl (r:=(.val (.p (.int .i64 ((O l:Nat):Int))),⟨[[.p (bq (.of l))]],k⟩)) ?_ (by simp[ui,aH,bR.av,D.av,bR.ren,D.ren,D.aZ,oM]);clear hf;simp[ll]
 have eJ:H.bx.set q [.p (bq (.of l))]=H.bx:=by
  apply lO;intro m;rw[nU];split
  .rename_i e;subst e;exact hb.symm
  .rfl
 have oX:nu H [q]:=by
  intro i hi cs hcs x hx;simp only[cq,iC,or_false] at hi|-;subst hi;rw[hb] at hcs;cases hcs;simp[D.ai,D.refs] at hx
 have e1:ins [] (D.ai [.box q 0])=[q]:=by simp[D.ai,D.refs,ins]
 unfold au;simp only[e1,Ei oX];simp[D.aC,D.bk,gM,hb,ins,nodupB,idx,D.aZ,D.ren,aH,dG,back,iD,bR.ren,bZ,eJ]
def Yq(n:Nat)(m:Mx):Prop:=1<=m.ar/\m.ar<=3/\(∀c∈els m.cs,0<=c.1/\∃j:Nat,j<n/\c.2=2*(j:Int))/\∀(i:Nat) a b,(els m.cs)[i]? =Z a->(els m.cs)[i+1]? =Z b->a.1<b.1
def xN(l:List (Int×Int)):Nat->Int
 | 0=> -1
 |i+1=>((l[i]?).map wm).getD (-1)
theorem akP{l:List Gt}(hl:O l<100000){m:Mx}(hm:Yq (O l) m)(dN:O (els m.cs)<4611686018427387904):
    ∀H,au (call pg) 37 [.p (.agg [bq (.of l)]),.p m.p] H=Z (.val (.p (.bool true)),H):=by
 obtain⟨ar,cs⟩:=m;obtain⟨m1,m2,m3,m4⟩:=hm;dsimp only at m1 m2 m3 m4 dN;have key:=mL (c:=call pg) (G:=pg.G) (keep:=[3,5,6,12,13,14]) (b:=bd xq 0) (λi=>[(3,.box 1 0),(5,.box 2 0),(6,.p (.int .i64 (xN (els cs) i))),(12,.p (rp cs)),(13,.p (.int .i64 ((O (els cs):Nat):Int))),(14,.p (.int .i64 ((i:Nat):Int)))]) ⟨[[.p (bq (.of l))],[.p (.int .i64 ar),.p (rp cs)],[.p (bq (.of l))]],[]⟩ (O (els cs))
  (λ_=>True) 0 (λe=>e.get 3= .box 1 0) (λ_=>False) ?_ ?_
 .rcases key with⟨e,hx,hg3,-⟩ |⟨e,hx,h2⟩
  .have hl0:xN (els cs) 0= -1:=rfl;unfold Mx.p;dsimp only;have hb0:bd xq 0=bd xq 0:=rfl
   conv at hb0=>rhs;reduce
   have hf:xq=xq:=rfl
   conv at hf=>rhs;reduce
   rw[<-hb0] at hf;refine aR (aa:=[_,_]) (e37.trans hf) rfl rfl rfl ?_;clear hf hb0;simp[hl0] at hx;simp[Qd,hx,hg3,m1,m2]
  .exact h2.elim
 .intro i hi;have ia:=KJ hi;have inc:=bt (k:=i) (by omega);have kH:(els cs)[i]? =Z (els cs)[i]:=aD hi;have jO:xN (els cs) (i+1)=(els cs)[i].1:=by simp[xN,kH]
  obtain⟨h0,j,hj,h2⟩:=m3 (els cs)[i] (dw hi);have NG:¬(els cs)[i].1<=xN (els cs) i:=by
   cases i with
   |zero=>simp only[xN];omega
   |succ k=>
    have hk:k<O (els cs):=by omega
    have:=m4 k _ _ (aD hk) kH;simp only[xN,aD hk,fy,mq];omega
  rw[jO];rw[h2] at ia;generalize (els cs)[i].1=r at *;generalize xN (els cs) i=la at *;have q1:¬(2*(j:Int)<0):=by omega
  have q2:¬(2*(j:Int)=1):=by omega
  have q3:(2*(j:Int)).tdiv 2=(j:Int):=Int.mul_tdiv_cancel_left _ (by decide);have q4:IntKind.i64.wrap (j:Int)=j:=wrap64 (by omega) (by omega);have q5:¬(O l:Int)<=(j:Int):=by omega
  have hlt:(i:Int)<(O (els cs):Int):=by omega
  have c94:=akO l (H:=⟨[[.p (bq (.of l))],[.p (.int .i64 ar),.p (rp cs)],[.p (bq (.of l))],[.p (.int .i64 r),.p (.int .i64 (2*(j:Int)))]],[]⟩) (q:=2) rfl;generalize 2*(j:Int)=jr at *;generalize ((i:Nat):Int)=iI at *;generalize ((i+1 :Nat):Int)=iJ at *
  conv in bd xq 0=>reduce
  simp[ia,hlt,inc,NG,q1,q2,q3,q4,q5,c94,fM,iW,reach,eQ,gM,ins]
 .skip
  conv in bd xq 0=>reduce
  simp

end Go.Proofs.YtgplgbonlnodeaaGreatDoor

end
