/-
  A value-level evaluator for Go functions; the functions of this cut by it; plain laws. Text G8.
-/
import Derived.Test.YtgplgbonlnodeaaGreatDoorG7
import Derived.Test.YtgplgbonlnodeaaGreatDoorG4
import Derived.Test.YtgplgbonlnodeaaGreatDoorG6
open Bool renaming and_eq_false_iff->Ld,and_eq_true->bL,false_eq_true->qp,not_eq_false'->Z3,not_eq_true->aoS,not_eq_true'->sR,not_false->Q9,or_eq_true->nR,true_and->Q6
open Int renaming natCast_inj->rF,natCast_pow->Rf,natCast_zero->gH,toNat_natCast->sQ
open List renaming all_eq_true->gV,append_assoc->j2,append_nil->iQ,cons_append->jo,drop_eq_getElem_cons->CZ,drop_length->C0,drop_zero->pM,eq_nil_of_length_eq_zero->sO,ext_getElem?->lO,filter_append->Rg,filter_cons->Az,flatMap_cons->sP,foldl_cons->tU,getD_eq_getElem?_getD->im,getElem?_append_left->aT,getElem?_append_right->cR,getElem?_drop->lN,getElem?_eq_getElem->aD,getElem?_eq_none->nS,getElem?_eq_some_iff->af,getElem?_map->cG,getElem?_modify->AD,getElem?_of_mem->dV,getElem?_replicate->aoT,getElem?_set->nU,getElem?_set_ne->bp,getElem?_set_self->eA,getElem?_take->gL,getElem?_take_of_lt->kX,getElem_mem->dw,length->oI,length_append->gG,length_cons->ew,length_eq_zero_iff->CR,length_filter_le->C3,length_map->bT,length_nil->fH,length_pos_iff->wh,length_replicate->CV,length_set->Ge,length_take->kY,map_append->oJ,map_congr_left->pN,map_cons->cB,map_id->Le,map_map->pO,map_nil->j4,mem_append->cx,mem_cons->cq,mem_cons_of_mem->kA,mem_filter->my,mem_map->cA,mem_map_of_mem->Q3,mem_of_getElem?->bB,mem_of_mem_take->jn,mem_singleton->nT,nil_append->fF,nodup_append->Q7,nodup_cons->tW,not_mem_nil->iC,pairwise_cons->pP,pairwise_iff_getElem->C1,pairwise_map->AB,replicate->dX,replicate_succ'->aac,take->rE,take_add_one->ub,take_length->lQ,take_of_length_le->fK,take_zero->tY
open List.Pairwise renaming filter->Gg,imp->Ri,imp_of_mem->aoU,nil->asE,sublist->asD
open List.cons renaming injEq->xY
open Nat renaming add_sub_cancel_left->tZ,add_zero->nO,le_refl->aK,le_trans->fW,le_zero_eq->aoR,lt_or_ge->fA,lt_trichotomy->Gf,mul_comm->tV,mul_le_mul->ud,mul_le_mul_right->ju,not_lt->Lg,zero_add->ez,zero_le->bD
open Option renaming bind->Rj,bind_some->Lc,map_eq_some_iff->ak,map_map->CX,map_some->fy
open Option.some renaming inj->nQ,injEq->bM
open Prod renaming fst->wm
open Prod.mk renaming injEq->mr
open List renaming length->O
open Option renaming some->Z,none->Y
set_option maxHeartbeats 4000000
set_option maxRecDepth 100000
open Go.Vs

section
open Go.Proofs.YtgplgbonlnodeaaGreatDoor
attribute [local simp] cH aP fY put Env.get Env.keep entry aA.ev pU yi aw cutAt yg D.uf D.lS u8 AG ye AH kD sub AJ rG PD.eqv j7 cls gY ug aV lg oL qx eR sT finish mD rJ aH D.ai D.refs D.aC D.bk cX gI aF pT fg dJ D.iR D.eZ sQ yh sS D.j6 ay IB IC Bw ID IE jT JV gives nx JR JS JT rF E4 bX below Out.ren D.ren D.aZ E6 JU JB qW JC xm JD JE JF JG JH JI JJ JK E5 JL JM JN JO JP BX JQ
namespace Go.Proofs.YtgplgbonlnodeaaGreatDoor
def CA(c:Int×Int):List D:=[.p (.int .i64 c.1),.p (.int .i64 c.2)]
theorem CB(x:PD):ay [.p x]=false:=vg [x]
theorem Yr(l:List Int)(b:Int):bz l++[.p (.int .i64 b)]=bz (l++[b]):=by simp[bz]
theorem Ys(l:List Int):(bz l).take (O l)=bz l:=fK (by rw[tO];exact aK _)

variable {vs : Sl Bool} {cs : Sl (Int × Int)}
def mR(vs:Sl Bool)(cs:Sl (Int×Int))(p q i:Nat):Env:=[(2,.p (dr vs)),(3,.box p 0),(6,.box 2 0),(7,.box q 0),(14,.p (rp cs)),(15,.p (.int .i64 ((O (els cs):Nat):Int))),(16,.p (.int .i64 ((i:Nat):Int)))]
theorem akR(p q i:Nat):(mR vs cs p q i).keep [2,3,6,7,14,15,16]=mR vs cs p q i:=rfl
variable{H:Hp}{ar:Int}{L:List Int}{i:Nat}{gs:PD}
theorem akS{p q:Nat}{c:Int×Int}(hg1:gs.one=true)(hp:H.bx[p]? =Z [.p gs])(ht:H.tk=[])(hc:(els cs)[i]? =Z c)(hl:O (els cs)<4611686018427387904)
    (rq:∀H,au (call pg) 36 [.p (.agg [gs]),.p (dr vs),.p (.int .i64 c.2)] H=Z (.val (.p (.bool false)),H)):
    post (nx [2,3,6,7,14,15,16] (mR vs cs p q (i+1)) ⟨H.bx++[CA c],[]⟩) (aq (call pg) pg.G aM (bd mf 0) ⟨mR vs cs p q i,H⟩):=by
 obtain⟨cW,he⟩:=af.1 hc;have ia:=KJ cW;rw[he] at ia;have inc:=bt (k:=i) (by omega);have hlt:(i:Int)<(O (els cs):Int):=by omega
 obtain⟨bx,tk⟩:=H;dsimp only at ht hp;subst ht;have hpl:=(af.1 hp).1;have xO:∀c:List D,(bx++[c])[p]? =Z [.p gs]:=λc=>by rw[aT hpl,hp]
 have KL:=qW hg1;obtain⟨c1,c2⟩:=c;unfold mR CA;dsimp only at ia rq|-;generalize ((i:Nat):Int)=iI at *;generalize ((i+1 :Nat):Int)=iJ at *
 conv in bd mf 0=>reduce
 simp[-ay,fw,CB,ia,inc,hlt,xO,rq,fM]
theorem akT{p q:Nat}{c:Int×Int}(hg1:gs.one=true)(hp:H.bx[p]? =Z [.p gs])(hq:H.bx[q]? =Z [.p (.int .i64 ar),.p .aj])(ht:H.tk=[])(hc:(els cs)[i]? =Z c)(hl:O (els cs)<4611686018427387904)
    (rq:∀H,au (call pg) 36 [.p (.agg [gs]),.p (dr vs),.p (.int .i64 c.2)] H=Z (.val (.p (.bool true)),H)):
    post (nx [2,3,6,7,14,15,16] (mR vs cs p q (i+1)) ⟨((H.bx++[CA c])++[bz [c.1]]).set q [.p (.int .i64 ar),.ae (O H.bx+1) 3 1 1],[]⟩) (aq (call pg) pg.G aM (bd mf 0) ⟨mR vs cs p q i,H⟩):=by
 obtain⟨cW,he⟩:=af.1 hc;have ia:=KJ cW;rw[he] at ia;have inc:=bt (k:=i) (by omega);have hlt:(i:Int)<(O (els cs):Int):=by omega
 obtain⟨bx,tk⟩:=H;dsimp only at ht hp hq;subst ht;have hpl:=(af.1 hp).1;have tS:=(af.1 hq).1;have xO:∀c:List D,(bx++[c])[p]? =Z [.p gs]:=λc=>by rw[aT hpl,hp]
 have CC:∀c:List D,(bx++[c])[q]? =Z [.p (.int .i64 ar),.p .aj]:=λc=>by rw[aT tS,hq]
 have yS:∀c d:List D,(bx++[c,d])[q]? =Z [.p (.int .i64 ar),.p .aj]:=λc d=>by rw[aT tS,hq]
 have hqc:∀c d:List D,(bx++[c]++[d])[q]? =Z [.p (.int .i64 ar),.p .aj]:=λc d=>by rw[j2];exact yS c d
 have KL:=qW hg1;obtain⟨c1,c2⟩:=c;unfold mR CA bz;dsimp only at ia rq|-;generalize ((i:Nat):Int)=iI at *;generalize ((i+1 :Nat):Int)=iJ at *
 conv in bd mf 0=>reduce
 simp[-ay,fw,CB,ia,inc,hlt,xO,CC,yS,rq,fM,gX,dJ,dx,iT,roomy]
theorem akU{p q k:Nat}{xs:List Int}{c:Int×Int}(hg1:gs.one=true)(hp:H.bx[p]? =Z [.p gs])(hq:H.bx[q]? =Z [.p (.int .i64 ar),.ae k 3 (O xs) 1])(hk:H.bx[k]? =Z (bz xs))(qC:xs≠[])(tR:k≠q)(_:k≠p)(ht:H.tk=[])(hc:(els cs)[i]? =Z c)(hl:O (els cs)<4611686018427387904)(nv:O xs<100000)
    (rq:∀H,au (call pg) 36 [.p (.agg [gs]),.p (dr vs),.p (.int .i64 c.2)] H=Z (.val (.p (.bool true)),H)):
    post (nx [2,3,6,7,14,15,16] (mR vs cs p q (i+1)) ⟨(((H.bx++[CA c]).set k [])++[bz (xs++[c.1])]).set q [.p (.int .i64 ar),.ae (O H.bx+1) 3 (O xs+1) 1],[]⟩) (aq (call pg) pg.G aM (bd mf 0) ⟨mR vs cs p q i,H⟩):=by
 obtain⟨cW,he⟩:=af.1 hc;have ia:=KJ cW;rw[he] at ia;have inc:=bt (k:=i) (by omega);have hlt:(i:Int)<(O (els cs):Int):=by omega
 obtain⟨bx,tk⟩:=H;dsimp only at ht hp hq hk;subst ht;have hpl:=(af.1 hp).1;have tS:=(af.1 hq).1;have eM:=(af.1 hk).1;have xO:∀c:List D,(bx++[c])[p]? =Z [.p gs]:=λc=>by rw[aT hpl,hp]
 have CC:∀c:List D,(bx++[c])[q]? =Z [.p (.int .i64 ar),.ae k 3 (O xs) 1]:=λc=>by rw[aT tS,hq]
 have hka:∀c:List D,(bx++[c])[k]? =Z (bz xs):=λc=>by rw[aT eM,hk]
 have Qe:∀c r:List D,((bx++[c]).set k []++[r])[q]? =Z [.p (.int .i64 ar),.ae k 3 (O xs) 1]:=λc r=>by
  rw[aT (by simp;omega),bp tR,CC]
 have KL:=qW hg1;have hne:bz xs≠[]:=λh=>qC (by
  have:=tO xs;rw[h] at this;exact CR.1 this.symm)
 have hr:roomy (O xs+1) 8=true:=by simp[roomy];omega
 have aO:=Ys xs;have rj:¬(O xs+1<=O xs):=by omega
 obtain⟨c1,c2⟩:=c;unfold mR CA;dsimp only at ia rq|-;generalize ((i:Nat):Int)=iI at *;generalize ((i+1 :Nat):Int)=iJ at *
 conv in bd mf 0=>reduce
 simp[-ay,fw,CB,vE,ia,inc,hlt,xO,CC,hka,Qe,rq,fM,hne,hr,aO,rj,gX,dJ,dx,tO,Yr]
def qm(ev:Int×Int->Bool)(l:List (Int×Int)):List Int:=(l.filter ev).map wm
theorem akV{ev:Int×Int->Bool}{l:List (Int×Int)}{c:Int×Int}(h:l[i]? =Z c):qm ev (l.take (i+1))=qm ev (l.take i)++if ev c then[c.1] else[]:=by
 obtain⟨h1,h2⟩:=af.1 h;rw[ub,h];unfold qm;rw[Rg,oJ];cases hc:ev c<;>simp[hc]
theorem Yt(ev:Int×Int->Bool)(l:List (Int×Int)):O (qm ev l)<=O l:=by
 unfold qm;rw[bT];exact C3 _ _
structure KM (gs:PD) (ar:Int) (p q i:Nat) (L:List Int) (H:Hp) (d:D):Prop where
 hp:H.bx[p]? =Z [.p gs]
 hq:H.bx[q]? =Z [.p (.int .i64 ar),d]
 row:fE H d L
 ids:∀k∈cK d,k≠p/\k≠q
 vQ:d≠.cC 3 1 []
 tk:H.tk=[]
 len:4<=O H.bx
theorem akW{p q:Nat}{d:D}{c:Int×Int}{b:Bool}(v:KM gs ar p q i L H d)(vR:p≠q)(hg1:gs.one=true)(hc:(els cs)[i]? =Z c)(hl:O (els cs)<100000)(hL:O L<100000)
    (rq:∀H,au (call pg) 36 [.p (.agg [gs]),.p (dr vs),.p (.int .i64 c.2)] H=Z (.val (.p (.bool b)),H)):
    ∃H2 d2,KM gs ar p q (i+1) (L++if b then[c.1] else[]) H2 d2/\(H.bx[2]? =Z [.p (.int .i64 0),.p .aj]->2≠q->2∉cK d->H2.bx[2]? =Z [.p (.int .i64 0),.p .aj]/\2∉cK d2)/\post (nx [2,3,6,7,14,15,16] (mR vs cs p q (i+1)) H2) (aq (call pg) pg.G aM (bd mf 0) ⟨mR vs cs p q i,H⟩):=by
 obtain⟨hp,hq,row,ids,vQ,tk,len⟩:=v;have hpl:=(af.1 hp).1;have tS:=(af.1 hq).1;have app:∀{j:Nat} {x:List D} (t:List (List D)),H.bx[j]? =Z x->(H.bx++t)[j]? =Z x:=λ{j x} t h=>by
  rw[aT (af.1 h).1,h]
 cases b with
 |false=>
  refine⟨_,d,⟨app _ hp,app _ hq,?_,ids,vQ,rfl,by simp;omega⟩,λh2 _ h3=>⟨app _ h2,h3⟩,akS hg1 hp tk hc (by omega) rq⟩;simp only[qp,if_false,iQ];cases row with
  |aj=>exact .aj
  |emp=>exact .emp
  |row k _ hk hl=>exact .row k _ (app _ hk) hl
 |true=>
  simp only[if_true];cases row with
  |emp=>exact absurd rfl vQ
  |aj=>
   refine⟨_,.ae (O H.bx+1) 3 1 1,⟨?_,?_,?_,?_,by simp,rfl,by simp;omega⟩,λh2 h3 _=>⟨?_,by simp[cK];omega⟩,akT hg1 hp hq tk hc (by omega) rq⟩
   .dsimp only;rw[bp vR.symm,j2];exact app _ hp
   .dsimp only;rw[eA (by simp;omega)]
   .refine .row (O H.bx+1) [c.1] ?_ (by simp);dsimp only;rw[bp (by omega),cR (by simp)];simp
   .intro k hk;simp only[cK,nT] at hk;omega
   .dsimp only;rw[bp h3.symm,j2];exact app _ h2
  |row k l hk hne=>
   have eF:=ids k (by simp[cK]);have e1:O (L++[c.1])=O L+1:=by simp
   refine⟨_,.ae (O H.bx+1) 3 (O (L++[c.1])) 1,⟨?_,?_,?_,?_,by simp,rfl,by simp;omega⟩,λh2 h3 h4=>⟨?_,by simp[cK];omega⟩,akU hg1 hp hq hk hne eF.2 eF.1 tk hc (by omega) hL rq⟩
   .dsimp only;rw[bp vR.symm,aT (by simp;omega),bp eF.1];exact app _ hp
   .dsimp only;rw[eA (by simp;omega),e1]
   .refine .row (O H.bx+1) (L++[c.1]) ?_ (by simp);dsimp only;rw[bp (by omega),cR (by simp)];simp
   .intro k hk;simp only[cK,nT] at hk;omega
   .have h5:k≠2:=λh=>h4 (by simp[cK,h]);have eu:=(af.1 h2).1;dsimp only;rw[bp h3.symm,aT (by simp;omega),bp h5];exact app _ h2
theorem akX{d:D}(r:fE H d L):∃s:Sl Int,els s=L/\s≠.cJ/\fin true (.agg [.p (.int .i64 ar),d]) H (.p (.agg [.int .i64 ar,ax s])):=by
 obtain⟨s,s1,s2,s3⟩:=r.av;refine⟨s,s1,s2,.p (.agg [.int .i64 ar,ax s]),?_,by simp[D.ren]⟩;have h2:(D.agg [.p (.int .i64 ar),d]).av 0 H 8= .p (.agg [.int .i64 ar,ax s]):=by
  unfold D.av;simp only[cB,j4,s3 5,kj];rfl
 rw[if_pos rfl,h2];simp[D.ren]
theorem akY{l:List Gt}(m:Mx)(ev:Int×Int->Bool)(dN:O (els m.cs)<100000)
    (dA:∀c∈els m.cs,∀H,au (call pg) 36 [.p (.agg [bq (.of l)]),.p (dr vs),.p (.int .i64 c.2)] H=Z (.val (.p (.bool (ev c))),H)):
    ∃s:Sl Int,els s=qm ev (els m.cs)/\s≠.cJ/\∀H,au (call pg) 39 [.p (.agg [bq (.of l)]),.p m.p,.p (dr vs)] H=Z (.val (.p (.agg [.int .i64 m.ar,ax s])),H):=by
 obtain⟨ar,cs⟩:=m;dsimp only at dN dA|-;have key:post (λo e H'=>o= .exit 0/\e.get 6= .box 2 0/\e.get 7= .box 3 0/\∃d,KM (bq (.of l)) ar 0 3 (O (els cs)) (qm ev (els cs)) H' d/\H'.bx[2]? =Z [.p (.int .i64 0),.p .aj]/\2∉cK d) (dB (call pg) pg.G [2,3,6,7,14,15,16] (bd mf 0) ⟨mR vs cs 0 3 0,⟨[[.p (bq (.of l))],[.p (.int .i64 ar),.p (rp cs)],[.p (.int .i64 0),.p .aj],[.p (.int .i64 ar),.p .aj]],[]⟩⟩):=by
  refine dT (c:=call pg) (G:=pg.G) (σ:=Nat×Hp) (λs=>mR vs cs 0 3 s.1) (λs=>s.2) (λs=>O (els cs)-s.1)
   (λs=>s.1<=O (els cs)/\∃d,KM (bq (.of l)) ar 0 3 s.1 (qm ev ((els cs).take s.1)) s.2 d/\s.2.bx[2]? =Z [.p (.int .i64 0),.p .aj]/\2∉cK d) _ ?_ (0,_) ⟨bD _,.p .aj,⟨rfl,rfl,.aj,by simp[cK],by simp,rfl,by simp⟩,rfl,by simp[cK]⟩
  rintro⟨i,H⟩ ⟨h1,d,v,h2,h3⟩;dsimp only at h1 v h2|-;rw[akR];rcases fA i (O (els cs)) with h |h
  .have hc:=aD h;have hL:=Yt ev ((els cs).take i);rw[kY] at hL;obtain⟨H2,d2,q1,q2,q3⟩:=akW v (by decide) (Cx _) hc dN (by omega) (dA _ (dw h));rw[<-akV hc] at q1;obtain⟨q4,q5⟩:=q2 h2 (by decide) h3;exact aG q3 λo e H' hh=>.inl ⟨(i+1,H2),⟨by dsimp only;omega,d2,q1,q4,q5⟩,by dsimp only;omega,hh⟩
  .have hi:i=O (els cs):=by omega
   subst hi;rw[lQ] at v;refine aG (Q:=λo e H'=>o= .exit 0/\e.get 6= .box 2 0/\e.get 7= .box 3 0/\H'=H) ?_ λo e H' hh=>.inr ⟨by rw[hh.1];simp,hh.1,hh.2.1,hh.2.2.1,hh.2.2.2▸⟨d,v,h2,h3⟩⟩;unfold mR
   conv in bd mf 0=>reduce
   simp
 obtain⟨o,e,⟨bx,tk⟩,hx,rfl,h6,h7,d,⟨hp,hq,row,ids,vQ,aO,len⟩,h2,h3⟩:=bC key;dsimp only at aO;subst aO;have Yu:∀x,(bx.set 2 x)[2]? =Z x:=λx=>eA (by dsimp only at len;omega);obtain⟨L,OB⟩:∃L,L=qm ev (els cs):=⟨_,rfl⟩;rw[<-OB] at row|-;unfold Mx.p;dsimp only at hq|-;unfold mR at hx;cases row with
 |emp=>exact absurd rfl vQ
 |aj=>
  refine⟨.nil,rfl,by simp,?_⟩;have hn:ax .nil= .aj:=rfl;have hb0:bd mf 0=bd mf 0:=rfl
  conv at hb0=>rhs;reduce
  have hf:mf=mf:=rfl
  conv at hf=>rhs;reduce
  rw[<-hb0] at hf;refine aR (aa:=[_,_,_]) (e39.trans hf) rfl rfl rfl ?_;clear hf hb0;simp at hx;simp[-ay,fw,Qd,hx,h6,h7,hq,h2,hn];exact⟨.p (.agg [.int .i64 ar,.aj]),by rw[Yu];rfl,(ahb ..).2 rfl⟩
 |row k _ hk hl=>
  obtain⟨s,s1,s2,s3⟩:=akX (H:=⟨bx.set 2 [.p (.int .i64 ar),.ae k 3 (O L) 1],[]⟩) (ar:=ar) (d:=.ae k 3 (O L) 1) (L:=L) (by
   refine .row k _ ?_ hl;dsimp only;rw[bp (λh=>h3 (by simp[cK,<-h]))];exact hk)
  refine⟨s,s1,s2,?_⟩;generalize ax s=ps at *;have hb0:bd mf 0=bd mf 0:=rfl
  conv at hb0=>rhs;reduce
  have hf:mf=mf:=rfl
  conv at hf=>rhs;reduce
  rw[<-hb0] at hf;refine aR (aa:=[_,_,_]) (e39.trans hf) rfl rfl rfl ?_;clear hf hb0;simp at hx;simp[-ay,fw,Qd,hx,h6,h7,hq,h2];exact⟨.agg [.p (.int .i64 ar),.ae k 3 (O L) 1],by rw[Yu];rfl,s3⟩

end Go.Proofs.YtgplgbonlnodeaaGreatDoor

namespace Go.Proofs.YtgplgbonlnodeaaGreatDoor
attribute [local irreducible] pw nz nA jt

variable {α : Type} {κ : Kd α} {F x1 x2 : Nat} {fP : Nat -> Nat -> Nat -> Int -> List (List (Int × List α)) -> List (List (Int × List α))} {Ai : Nat -> Nat -> Nat -> List (List (Int × List α)) -> Prop}
variable{H:Hp}{sst:Int}{fx:List (Nat×List D)}{pre bf:List D}{m:Nat}{dz:Nat->dK}{so f3 f4:PD}{bb:Sl Bn}{fi:Sl Fi}{a:Sl Int}
theorem Qf{Q:Out->Env->Hp->Prop}{nb:Nat}{o:Out}{H3:Hp}{P:Env->Env->Prop}(h:∀e,∃e3,bX nb 0 (o,⟨e,H⟩)=(o,⟨e3,H3⟩)/\P e e3)(hq:∀e,Q o e H3){e:Env}:post Q (Z (bX nb 0 (o,⟨e,H⟩))):=by
 obtain⟨e3,h1,-⟩:=h e;rw[h1];exact hq e3
def rz(fP:Nat->Nat->Nat->Int->List (List (Int×List α))->List (List (Int×List α)))(k f:Nat)(r:Int):Nat->List (List (Int×List α))->List (List (Int×List α))
 | 0,S=>S
 |n+1,S=>fP k (n+1) f r (rz fP k f r n S)
structure Fg (κ:Kd α) (H:Hp) (lab:Nat->dK) (m n2:Nat) (pre bf:List D) (fx:List (Nat×List D)) (F x1 x2:Nat) (C:List PD) (S:List (List (Int×List α))):Prop where
 w:Wg κ H lab m pre bf fx S
 b2:H.bx[n2]? =Z [.ro C 0]
 l2:lab n2= .none
 b3:H.bx[n2+1]? =Z [.fn F [] [.box x1 0,.box x2 0]]
 l3:lab (n2+1)= .none
 tk:H.tk=[]
theorem akZ{n2 n4:Nat}{S0:List (List (Int×List α))}{K:Sl (Int×Int)}{k f:Nat}{r:Int}{x:PD}(_:∀{H:Hp} {lab:Nat->dK} {S:List (List (Int×List α))},Wg κ H lab m pre bf fx S->lab x1≠.none/\lab x2≠.none)(hstep:∀{H:Hp} {lab:Nat->dK} {S:List (List (Int×List α))},Wg κ H lab m pre bf fx S->∀{k s f:Nat} {r:Int},k<4611686018427387904->Ai k s f S->O H.bx<1000000000->
    ∃H2 lab2,au (call pg) F [.p (.agg [.int .i64 ((k+1 :Nat):Int),.int .i64 (s:Int),.int .i64 (f:Int),.int .i64 r]),.box x1 0,.box x2 0] H=Z (.val .undef,H2)/\
     Wg κ H2 lab2 m pre bf fx (fP k s f r S)/\H2.tk=H.tk/\O H.bx<=O H2.bx/\O H2.bx<=O H.bx+3/\(∀j,j<O H.bx->lab2 j=lab j)/\∀j,j<O H.bx->lab j= .none->H2.bx[j]? =H.bx[j]?) (hk:k<4611686018427387904) (hst:1<=sst/\sst<=4)
    (bV:∀n:Nat,((n+1 :Nat):Int)<sst->Ai k (n+1) f (rz fP k f r n S0)) {H0:Hp}  (w0:Fg κ H0 dz m n2 pre bf fx F x1 x2 (dL so f3 f4 fi a sst bb K) S0) (h4:H0.bx[n4]? =Z [.p (.int .i64 ((k+1 :Nat):Int)),.p x,.p (.int .i64 ((f:Nat):Int)),.p (.int .i64 r)]) (P3:dz n4= .none) (nG:O H0.bx<900000000) (_:x.one=true):
    post (λo _ H'=>o= .exit 2/\O H0.bx<=O H'.bx/\O H'.bx<=O H0.bx+12/\∃bh,(∀j,j<O H0.bx->bh j=dz j)/\Fg κ H' bh m n2 pre bf fx F x1 x2 (dL so f3 f4 fi a sst bb K) (rz fP k f r (sst.toNat-1) S0)) (dB (call pg) pg.G [2,3,4,5] (bd a59 0) ⟨[(2,.box n2 0),(3,.box (n2+1) 0),(4,.box n4 0),(5,.p (.int .i64 1))],H0⟩):=by
 refine dT (c:=call pg) (G:=pg.G) (σ:=Nat×Hp) (λs=>[(2,.box n2 0),(3,.box (n2+1) 0),(4,.box n4 0),(5,.p (.int .i64 ((s.1+1 :Nat):Int)))]) (λs=>s.2) (λs=>4-s.1)
  (λs=>((s.1+1 :Nat):Int)<=sst/\O H0.bx<=O s.2.bx/\O s.2.bx<=O H0.bx+3*s.1/\s.2.bx[n4]? =Z [.p (.int .i64 ((k+1 :Nat):Int)),.p x,.p (.int .i64 ((f:Nat):Int)),.p (.int .i64 r)]/\∃bh,(∀j,j<O H0.bx->bh j=dz j)/\Fg κ s.2 bh m n2 pre bf fx F x1 x2 (dL so f3 f4 fi a sst bb K) (rz fP k f r s.1 S0)) _ ?_ (0,H0) ⟨by simpa using hst.1,by simp,by simp,h4,dz,λ_ _=>rfl,w0⟩
 have P4:=(af.1 h4).1;rintro⟨n,H⟩ ⟨i1,i0,i2,i4,lab,qi,w⟩;dsimp only at i1 i0 i2 i4 w|-;have l4:lab n4= .none:=(qi _ P4).trans P3;have vp:∀x∈fx,x.1<O H.bx:=λx hx=>w.w.lt (w.w.an hx);have hm:m<O H.bx:=w.w.lt w.w.mn;have hb2:=w.b2;have hb3:=w.b3;have eu:=(af.1 hb2).1;have dU:=(af.1 hb3).1;have qj:=(af.1 i4).1;have aO:=w.tk;by_cases hlt:((n+1 :Nat):Int)<sst
 .obtain⟨H2,lab2,cF,w2,q1,q2,q3,q4,q5⟩:=hstep w.w (k:=k) (s:=n+1) (f:=f) (r:=r) hk (bV n hlt) (by omega);obtain⟨H3,eG,hloc,y2,y3,y4,y5,y6,y7⟩:=w2.loc (nb:=O H.bx) q2 vp hm (q1.trans aO) .norm (λ_ _=>rfl);obtain⟨e3,y1,y8⟩:=hloc [(2,.box n2 0),(3,.box (n2+1) 0),(4,.box n4 0),(5,.p (.int .i64 ((n+1+1 :Nat):Int)))];have inc:=bt (k:=n+1) (by omega);refine aG (Q:=λo e H'=>o= .norm/\H'=H3/\e=e3) ?_ λo e H' hh=>.inl ?_
  .generalize ((k+1 :Nat):Int)=k1 at *;generalize ((n+1+1 :Nat):Int)=n5 at *;generalize ((n+1 :Nat):Int)=n1 at *;unfold dL at hb2 hb3
   conv in bd a59 0=>reduce
   simp[-bX,-ay,fw,sF,tQ,hb2,hb3,aO,i4,hlt,cF,inc,y1]
  .obtain⟨rfl,rfl,rfl⟩:=hh;refine⟨(n+1,H'),⟨by dsimp only;omega,by dsimp only;omega,by dsimp only;omega,?_,eG,?_,?_⟩,by dsimp only;omega,rfl,rfl,?_⟩
   .dsimp only;rw[y7 _ qj,q5 _ qj l4,i4]
   .intro j hj;rw[y6 _ (by omega),q4 _ (by omega)];exact qi j hj
   .exact⟨y2,by rw[y7 _ eu,q5 _ eu w.l2,hb2],by rw[y6 _ eu,q4 _ eu,w.l2],by rw[y7 _ dU,q5 _ dU w.l3,hb3],by rw[y6 _ dU,q4 _ dU,w.l3],y3⟩
   .rcases y8 with rfl |rfl
    .rfl
    .generalize ((n+1+1 :Nat):Int)=n5;simp[Env.keep,Env.get,D.ren,below,eu,dU,qj]
 .have hn:n=sst.toNat-1:=by omega
  obtain⟨H3,eG,hloc,y2,y3,y4,y5,y6,y7⟩:=w.w.loc (nb:=O H.bx) (aK _) vp hm aO (.exit 2) (λ_ _=>rfl);obtain⟨e3,y1,y8⟩:=hloc [(2,.box n2 0),(3,.box (n2+1) 0),(4,.box n4 0),(5,.p (.int .i64 ((n+1 :Nat):Int))),(33,.p (.bool false))];refine aG (Q:=λo e H'=>o= .exit 2/\H'=H3) ?_ λo e H' hh=>.inr ?_
  .generalize ((n+1 :Nat):Int)=n1 at *;unfold dL at hb2 hb3
   conv in bd a59 0=>reduce
   simp[-bX,-ay,tQ,hb2,aO,hlt,y1]
  .obtain⟨rfl,rfl⟩:=hh;refine⟨by simp,rfl,by omega,by omega,eG,λj hj=>(y6 _ (by omega)).trans (qi j hj),?_⟩;rw[<-hn];exact⟨y2,by rw[y7 _ eu,hb2],by rw[y6 _ eu,w.l2],by rw[y7 _ dU,hb3],by rw[y6 _ dU,w.l3],y3⟩
def stepG(fP:Nat->Nat->Nat->Int->List (List (Int×List α))->List (List (Int×List α)))(vs:List Bool)(st:Int)(S:List (List (Int×List α)))(e:Nat×Nat×Int×Int):List (List (Int×List α)):=
 if 0<e.2.1\/vs.getD e.2.2.1.toNat false=true then fP (e.1-1) e.2.1 e.2.2.1.toNat e.2.2.2 S
 else rz fP (e.1-1) e.2.2.1.toNat e.2.2.2 (st.toNat-1) (fP (e.1-1) e.2.1 e.2.2.1.toNat e.2.2.2 S)
def Qg(fP:Nat->Nat->Nat->Int->List (List (Int×List α))->List (List (Int×List α)))(Ai:Nat->Nat->Nat->List (List (Int×List α))->Prop)(vs:List Bool)(st:Int)(S:List (List (Int×List α)))(e:Nat×Nat×Int×Int):Prop:=
 Ai (e.1-1) e.2.1 e.2.2.1.toNat S/\(¬(0<e.2.1\/vs.getD e.2.2.1.toNat false=true)->∀n:Nat,((n+1 :Nat):Int)<st->Ai (e.1-1) (n+1) e.2.2.1.toNat (rz fP (e.1-1) e.2.2.1.toNat e.2.2.2 n (fP (e.1-1) e.2.1 e.2.2.1.toNat e.2.2.2 S)))
theorem ak0{S0:List (List (Int×List α))}(dQ:∀{H:Hp} {lab:Nat->dK} {S:List (List (Int×List α))},Wg κ H lab m pre bf fx S->lab x1≠.none/\lab x2≠.none)(hstep:∀{H:Hp} {lab:Nat->dK} {S:List (List (Int×List α))},Wg κ H lab m pre bf fx S->∀{k s f:Nat} {r:Int},k<4611686018427387904->Ai k s f S->O H.bx<1000000000->
    ∃H2 lab2,au (call pg) F [.p (.agg [.int .i64 ((k+1 :Nat):Int),.int .i64 (s:Int),.int .i64 (f:Int),.int .i64 r]),.box x1 0,.box x2 0] H=Z (.val .undef,H2)/\
     Wg κ H2 lab2 m pre bf fx (fP k s f r S)/\H2.tk=H.tk/\O H.bx<=O H2.bx/\O H2.bx<=O H.bx+3/\(∀j,j<O H.bx->lab2 j=lab j)/\∀j,j<O H.bx->lab j= .none->H2.bx[j]? =H.bx[j]?) (hst:1<=sst/\sst<=4)
    (hbl:O (els bb)=O (els fi)) (hl:O (els bb)<=1000) (hu:∀b∈els bb,O (els b.up.tu)<=900)
    (bV:∀(j:Nat) e,(cz (els fi) (els bb) sst)[j]? =Z e->Qg fP Ai ((els fi).map Fi.va) sst (((cz (els fi) (els bb) sst).take j).foldl (stepG fP ((els fi).map Fi.va) sst) S0) e)
      (w:Wg κ H dz m pre bf fx S0) (aO:H.tk=[]) (nG:O H.bx<100000000):
    ∃Hs di,call pg 59 [.ro (dL so f3 f4 fi a sst bb (fU (bu 0 (els bb)))) 0,.fn F [] [.box x1 0,.box x2 0]] H=Z (.val .undef,Hs)/\
     Wg κ Hs di m pre bf fx ((cz (els fi) (els bb) sst).foldl (stepG fP ((els fi).map Fi.va) sst) S0)/\O H.bx<=O Hs.bx/\O Hs.bx<=O H.bx+100000000/\∀j,j<O H.bx->di j=dz j:=by
 have hg:=P2 (so:=so) (f3:=f3) (f4:=f4) (a:=a) hst.2 hbl hl hu;have hv:∀(j:Nat) e,(cz (els fi) (els bb) sst)[j]? =Z e->e.1=bF sst+j+1:=Cs ((els fi).map Fi.va) (bu 0 (els bb)) sst.toNat 0 (bF sst);have eV:∀e∈cz (els fi) (els bb) sst,e.2.1<sst.toNat/\∃k:Nat,e.2.2.1=(k:Int)/\k<O (els fi):=λe he=>by
  obtain⟨_,h2,h3⟩:=xH _ _ _ _ _ e he;obtain⟨k,h4,_,h5⟩:=xF _ _ _ h3;exact⟨by omega,k,h4,by omega⟩
 have hLl:O (cz (els fi) (els bb) sst)<=4*(1000*900):=by
  have rQ:O (bu 0 (els bb))<=1000*900:=by
   have h1:=xA (els bb) 0 900 hu;have h5:O (els bb)*900<=1000*900:=ju 900 hl;omega
  have h1:=FK ((els fi).map Fi.va) (bu 0 (els bb)) sst.toNat 0 (bF sst);have h2:sst.toNat*O (bu 0 (els bb))<=4*(1000*900):=ud (by omega) rQ;exact fW h1 h2
 have hN4:bF sst<=4:=by unfold bF;split<;>omega
 have w1:=w.snoc [.ro (dL so f3 f4 fi a sst bb (fU (bu 0 (els bb)))) 0] (by simp[D.ai,D.refs]) rfl H.tk;have w2:=w1.snoc [.fn F [] [.box x1 0,.box x2 0]] (by
  intro x hx;have :x=x1\/x=x2:=by simpa[D.ai,D.refs] using hx
  rcases this with rfl |rfl
  .exact(dQ w).1
  .exact(dQ w).2) rfl H.tk
 have hF:Fg κ ⟨H.bx++[[.ro (dL so f3 f4 fi a sst bb (fU (bu 0 (els bb)))) 0]]++[[.fn F [] [.box x1 0,.box x2 0]]],H.tk⟩ dz m (O H.bx) pre bf fx F x1 x2 (dL so f3 f4 fi a sst bb (fU (bu 0 (els bb)))) S0:=
  ⟨w2,by simp,w.fr _ (aK _),by simp,w.fr _ (by omega),aO⟩
 generalize hN:O H.bx=N at *;generalize fU (bu 0 (els bb))=K at *;generalize cz (els fi) (els bb) sst=L at *;have hb0:=rf (bd a59 0)
 conv at hb0=>rhs;reduce
 have hf:=rf a59
 conv at hf=>rhs;reduce
 rw[<-hb0] at hf;obtain⟨Hs,h1,di,h2⟩:=Cj (f:=59) (y:=.undef) (H:=H) (Q:=λHs=>∃di,Wg κ Hs di m pre bf fx (L.foldl (stepG fP ((els fi).map Fi.va) sst) S0)/\N<=O Hs.bx/\O Hs.bx<=N+100000000/\∀j,j<N->di j=dz j) (aa:=[.ro (dL so f3 f4 fi a sst bb K) 0,.fn F [] [.box x1 0,.box x2 0]]) hf rfl rfl rfl rfl (by
  clear hf hb0;simp[-bX,-ay,tQ,Ya,Yb,Kz,aO,hN,hg];refine Yc (λj H'=>O H'.bx<=N+2+20*j/\N+2<=O H'.bx/\∃lab,(∀i,i<N->lab i=dz i)/\Fg κ H' lab m N pre bf fx F x1 x2 (dL so f3 f4 fi a sst bb K) ((L.take j).foldl (stepG fP ((els fi).map Fi.va) sst) S0)) ⟨by simp[hN],by simp[hN],dz,λ_ _=>rfl,by simpa[aO] using hF⟩ ?_ ?_
  .rintro j x H iz ⟨i1,i2,lab,i3,w⟩;rw[cG] at iz;cases ht:L[j]? with
   |none=>rw[ht] at iz;cases iz
   |some e=>
    rw[ht] at iz;cases iz;refine⟨rfl,?_⟩;have hj:=(af.1 ht).1;have he:=hv j e ht;obtain⟨hs1,k,eF,hk2⟩:=eV e (bB ht);obtain⟨xE,vK⟩:=bV j e ht;have hS:(L.take (j+1)).foldl (stepG fP ((els fi).map Fi.va) sst) S0=stepG fP ((els fi).map Fi.va) sst ((L.take j).foldl (stepG fP ((els fi).map Fi.va) sst) S0) e:=by
     rw[ub,ht,Option.toList_some,List.foldl_append,tU,List.foldl_nil]
    rw[hS];generalize (L.take j).foldl (stepG fP ((els fi).map Fi.va) sst) S0=S at *;obtain⟨e1,s,e3,r⟩:=e;dsimp only at he hs1 eF hk2 xE vK;subst he eF;simp only[sQ] at xE vK;have aS:=py hk2;have z8:((els fi).map Fi.va).getD k false=(els fi)[k].va:=by simp[im,hk2]
    unfold stepG;dsimp only;rw[show bF sst+j+1-1=bF sst+j by omega] at vK|-;rw[sQ];have hkb:bF sst+j<4611686018427387904:=by omega
    generalize hk:bF sst+j=kv at *;have wa:=w.w.snoc [.p (.int .i64 ((kv+1 :Nat):Int)),.p (.int .i64 ((s:Nat):Int)),.p (.int .i64 ((k:Nat):Int)),.p (.int .i64 r)] (by simp[D.ai,D.refs]) rfl H.tk;obtain⟨H2,lab2,cF,w2,q1,q2,q3,q4,q5⟩:=hstep wa (k:=kv) (s:=s) (f:=k) (r:=r) hkb xE (by simp;omega);have hb2:=w.b2;have hb3:=w.b3;have ql:=w.tk;have n2l:=(af.1 hb2).1;have P5:=(af.1 hb3).1;have FL:∀(i:Nat) cs,H.bx[i]? =Z cs->lab i= .none->H2.bx[i]? =Z cs/\lab2 i= .none:=λi cs h1 h2=>by
     have hl:=(af.1 h1).1;refine⟨?_,by rw[q4 i (by simp;omega),h2]⟩;rw[q5 i (by simp;omega) h2];dsimp only;rw[aT hl,h1]
    have h4:H2.bx[O H.bx]? =Z [.p (.int .i64 ((kv+1 :Nat):Int)),.p (.int .i64 ((s:Nat):Int)),.p (.int .i64 ((k:Nat):Int)),.p (.int .i64 r)]/\lab2 (O H.bx)= .none:=by
     refine⟨?_,by rw[q4 _ (by simp)];exact w.w.fr _ (aK _)⟩;rw[q5 _ (by simp) (w.w.fr _ (aK _))];simp
    have kz:=FL _ _ hb2 w.l2;have vL:=FL _ _ hb3 w.l3;have hF2:Fg κ H2 lab2 m N pre bf fx F x1 x2 (dL so f3 f4 fi a sst bb K) (fP kv s k r S):=⟨w2,kz.1,kz.2,vL.1,vL.2,q1.trans ql⟩;have vp:∀x∈fx,x.1<O H.bx+1:=λx hx=>Nat.lt_succ_of_lt (w.w.lt (w.w.an hx));have hap:∀cs:List D,(H.bx++[cs])[N+1]? =Z [.fn F [] [.box x1 0,.box x2 0]]:=λcs=>by rw[aT P5,hb3]
    rw[ql] at cF;have dN:m<O H.bx:=w.w.lt w.w.mn;simp only[gG,ew,fH] at q2 q3 q4;by_cases hcnd:0<s\/(els fi)[k].va=true
    .rw[if_pos (by rw[z8];exact hcnd)];obtain⟨H3,eG,hloc,y2,y3,y4,y5,y6,y7⟩:=w2.loc (nb:=O H.bx+1) q2 vp (by omega) (q1.trans ql) .norm (λ_ _=>rfl);have hI:O H3.bx<=N+2+20*(j+1)/\N+2<=O H3.bx/\∃lab,(∀i,i<N->lab i=dz i)/\Fg κ H3 lab m N pre bf fx F x1 x2 (dL so f3 f4 fi a sst bb K) (fP kv s k r S):=
      ⟨by omega,by omega,eG,λi hi=>by rw[y6 i (by omega),q4 i (by omega),i3 i hi],y2,by rw[y7 _ (by omega),kz.1],by rw[y6 _ (by omega),kz.2],by rw[y7 _ (by omega),vL.1],by rw[y6 _ (by omega),vL.2],y3⟩
     generalize fP kv s k r S=S1 at *;generalize eF:((kv+1 :Nat):Int)=k1 at *;by_cases hs0:0<s
     .have Ck:(0 :Int)<((s:Nat):Int):=by omega
      unfold dL at hb2 kz;simp[-bX,-ay,fw,sF,qU,mC,nX,D.ai,D.refs,ins,p9,xC,ql,eF,hs0,hap,cF,h4.1];exact Qf hloc λ_=>⟨rfl,hI⟩
     .have hs1:s=0:=by omega
      subst hs1;have Aa:(els fi)[k].va=true:=hcnd.resolve_left (by omega);have sH:=h4.1;simp only[gH] at cF sH;unfold dL at hb2 kz;simp[-bX,-ay,fw,sF,tQ,qU,mC,nX,D.ai,D.refs,ins,p9,xC,ql,eF,zV,hap,kz.1,cF,sH,aS,Aa];exact Qf hloc λ_=>⟨rfl,hI⟩
    .rw[if_neg (by rw[z8];exact hcnd)];have hs1:s=0:=by omega
     subst hs1;have Aa:(els fi)[k].va=false:=by
      cases hh:(els fi)[k].va with
      |false=>rfl
      |true=>exact absurd (.inr hh) hcnd
     have je:=akZ dQ hstep (n4:=O H.bx) (x:=.int .i64 ((0 :Nat):Int)) (k:=kv) (f:=k) (r:=r) (so:=so) (f3:=f3) (f4:=f4) (fi:=fi) (a:=a) (bb:=bb) (K:=K) hkb hst (vK (by rw[z8];exact hcnd)) hF2 h4.1 h4.2 (by omega) rfl;obtain⟨o5,e5,H5,P6,rfl,g1,g2,aj7,g3,oD⟩:=bC je;obtain⟨H3,eG,hloc,y2,y3,y4,y5,y6,y7⟩:=oD.w.loc (nb:=O H.bx+1) (by omega) vp (by omega) oD.tk .norm (λ_ _=>rfl);have hI:O H3.bx<=N+2+20*(j+1)/\N+2<=O H3.bx/\∃lab,(∀i,i<N->lab i=dz i)/\Fg κ H3 lab m N pre bf fx F x1 x2 (dL so f3 f4 fi a sst bb K) (rz fP kv k r (sst.toNat-1) (fP kv 0 k r S)):=
      ⟨by omega,by omega,eG,λi hi=>by rw[y6 i (by omega),g3 i (by omega),q4 i (by omega),i3 i hi],y2,by rw[y7 _ (by omega),oD.b2],by rw[y6 _ (by omega),oD.l2],by rw[y7 _ (by omega),oD.b3],by rw[y6 _ (by omega),oD.l3],y3⟩
     generalize fP kv 0 k r S=S1 at *;generalize rz fP kv k r (sst.toNat-1) S1=S2 at *;generalize eF:((kv+1 :Nat):Int)=k1 at *;have sH:=h4.1;have aj8:=oD.tk;simp only[gH] at cF sH;unfold dL at hb2 kz;simp[-bX,-ay,fw,sF,tQ,qU,mC,nX,D.ai,D.refs,ins,p9,xC,ql,eF,zV,hap,kz.1,cF,sH,aS,Aa,P6];exact Qf hloc λ_=>⟨rfl,hI⟩
  .rintro H' ⟨i1,i2,lab,i3,w⟩;rw[bT] at i1 w;rw[lQ] at w;exact⟨.inr rfl,lab,w.w,by omega,by omega,i3⟩)
 exact⟨Hs,di,h1,h2⟩

end Go.Proofs.YtgplgbonlnodeaaGreatDoor

namespace Go.Proofs.YtgplgbonlnodeaaGreatDoor
attribute [local irreducible] pw nz nA jt
variable{at_ d13:D}{H H0:Hp}{sst lp ar r x:Int}{l:List (Int×Int)}{R:List (Int×List (Int×Int))}{fx:List (Nat×List D)}{mc:List D}{l0:List Gt}{al rs:List Int}{C:List PD}{m i b2 rk f:Nat}{lab dz:Nat->dK}{bb:Sl Bn}{bs:Sl Bool}{a:Sl Int}
theorem Aj(bV:H.Ok)(ht:∀(i:Nat) cs,H.bx[i]? =Z cs->D.aC cs=[])(aO:H.tk=[]){n:Nat}(hn:n=O H.bx)(o:Out)(ho:∀f g,o.ren f g=Z o)(e:Env):
    bX n 0 (o,⟨e,H⟩)=(o,⟨e.map λy=>(y.1,(y.2.ren (below n) (below 0)).getD .dead),H⟩):=by
 subst hn;unfold bX;rw[if_pos ⟨aK _,bD _⟩];dsimp only;rw[ho,lQ];have h1:aH (D.aZ (below (O H.bx)) (below 0)) H.bx=Z H.bx:=by
  rw[Ek (g:=id) H.bx λcs hcs=>⟨λr hr=>?_,?_⟩]
  .congr 1
   exact(pN λcs _=>vo cs).trans (Le _)
  .obtain⟨i,hi⟩:=dV hcs;have:=bV i cs hi r hr;simp[below,this]
  .obtain⟨i,hi⟩:=dV hcs;exact ht i cs hi
 rw[h1];simp only[aO,List.take_nil];obtain⟨bx,tk⟩:=H;simp only at aO;subst aO;rfl
structure Dc (H:Hp) (lab:Nat->ep) (m:Nat) (at_:D) (al:List Int) (bs:Sl Bool) (a:Sl Int) (sst lp:Int) (S:fV):Prop where
 w:Wk H lab 4 2 m at_ al bs sst lp S
 b1:H.bx[1]? =Z [.p (ax a),.p (.int .i64 sst)]
 l1:lab 1= .none
 b3:H.bx[3]? =Z [.p .aj,.p (.int .i64 0),.p .aj,.p (.int .i64 0)]
 l3:lab 3= .none
 tk:H.tk=[]
def lL(bs:List Bool)(st:Int):Nat->Int
 | 0=>0
 |v+1=>if bs.getD v false=true then st-((v+1 :Nat):Int) else lL bs st v
theorem ak1{lab:Nat->ep}(eU:O (els bs)<4611686018427387904)(hst:1<=sst/\sst<=4)(w:Dc H lab m at_ al bs a sst 0 []){v0:Nat}(hv0:v0<=4)(hS:H.bx[m]? =Z [at_,.p (.int .i64 sst),.p .aj,.p (.int .i64 0)]):
    post (λo e H'=>o= .exit 0/\Dc H' lab m at_ al bs a sst (lL (els bs) sst v0) []/\O H'.bx=O H.bx/\H'.bx[m]? =Z [at_,.p (.int .i64 sst),.p .aj,.p (.int .i64 (lL (els bs) sst v0))]/\e.get 2= .p (cM bb)/\e.get 5= .box 1 0/\e.get 8= .box 3 0/\e.get 9= .ro C 0/\e.get 10= .box 4 0/\e.get 11= .box m 0)
     (dB (call pg) pg.G [2,5,8,9,10,11,12] (bd a24 0) ⟨[(2,.p (cM bb)),(5,.box 1 0),(8,.box 3 0),(9,.ro C 0),(10,.box 4 0),(11,.box m 0),(12,.p (.int .i64 ((v0:Nat):Int)))],H⟩):=by
 refine dT (c:=call pg) (G:=pg.G) (σ:=Nat) (λv=>[(2,.p (cM bb)),(5,.box 1 0),(8,.box 3 0),(9,.ro C 0),(10,.box 4 0),(11,.box m 0),(12,.p (.int .i64 ((v:Nat):Int)))]) (λ_=>H) (λv=>v)
  (λv=>v<=4/\lL (els bs) sst v=lL (els bs) sst v0) _ ?_ v0 ⟨hv0,rfl⟩
 rintro v ⟨hv,je⟩;have ri:=(af.1 w.b1).1;have dU:=(af.1 w.b3).1;have qj:=(af.1 w.w.cc).1;have dN:m<O H.bx:=w.w.lt (by rw[w.w.mod.1];simp);have hb1:=w.b1;have hb4:=w.w.cc;have aO:=w.tk;have e1:H.bx[1]=[.p (ax a),.p (.int .i64 sst)]:=by have:=hb1;rw[aD ri] at this;exact nQ this
 have e4:H.bx[4]=[.fn 73 [] [.box 2 0]]:=by have:=hb4;rw[aD qj] at this;exact nQ this
 have em:H.bx[m]=[at_,.p (.int .i64 sst),.p .aj,.p (.int .i64 0)]:=by have:=hS;rw[aD dN] at this;exact nQ this
 cases v with
 |zero=>
  refine aG (Q:=λo e H'=>o= .exit 0/\H'=H/\e.get 2= .p (cM bb)/\e.get 5= .box 1 0/\e.get 8= .box 3 0/\e.get 9= .ro C 0/\e.get 10= .box 4 0/\e.get 11= .box m 0) ?_ λo e H' hh=>.inr ?_
  .have pF:=λe=>Aj w.w.ok w.w.tk w.tk (n:=O H.bx) rfl (.exit 0) (λ_ _=>rfl) e
   conv in bd a24 0=>reduce
   simp[-bX,-ay,aO,pF,ri,dU,qj,dN]
  .obtain⟨rfl,rfl,g2,g5,g8,g9,g10,g11⟩:=hh;rw[<-je];exact⟨by simp,rfl,w,rfl,hS,g2,g5,g8,g9,g10,g11⟩
 |succ v=>
  have hval:=PC (H:=H) bs v eU (by omega) w.w.vv;cases hb:(els bs).getD v false with
  |false=>
   rw[hb] at hval;refine aG (Q:=nx [2,5,8,9,10,11,12] [(2,.p (cM bb)),(5,.box 1 0),(8,.box 3 0),(9,.ro C 0),(10,.box 4 0),(11,.box m 0),(12,.p (.int .i64 ((v:Nat):Int)))] H) ?_ λo e H' hh=>.inl ⟨v,⟨by omega,?_⟩,by omega,hh⟩
   .have pF:=λe=>Aj w.w.ok w.w.tk w.tk (n:=O H.bx) rfl .norm (λ_ _=>rfl) e;have c1:IntKind.i64.wrap (((v+1 :Nat):Int)-1)=((v:Nat):Int):=by rw[wrap64 (by omega) (by omega)];omega
    have c2:(0 :Int)<((v+1 :Nat):Int):=by omega
    generalize ((v+1 :Nat):Int)=v1 at *
    conv in bd a24 0=>reduce
    simp[-bX,-ay,aO,pF,e4,ri,dU,qj,dN,sF,hval,c1,c2,Env.keep]
   .rw[<-je];simp only[lL];rw[hb,if_neg (by simp)]
  |true=>
   rw[hb] at hval;have ak2:lL (els bs) sst (v+1)=sst-((v+1 :Nat):Int):=by
    simp only[lL];rw[hb,if_pos rfl]
   have hs1:=w.w.aj9 hS (sst-((v+1 :Nat):Int));have c3:IntKind.i64.wrap (sst-((v+1 :Nat):Int))=sst-((v+1 :Nat):Int):=wrap64 (by omega) (by omega);refine aG (Q:=λo e H'=>o= .exit 0/\H'=⟨H.bx.set m [at_,.p (.int .i64 sst),.p .aj,.p (.int .i64 (sst-((v+1 :Nat):Int)))],H.tk⟩/\e.get 2= .p (cM bb)/\e.get 5= .box 1 0/\e.get 8= .box 3 0/\e.get 9= .ro C 0/\e.get 10= .box 4 0/\e.get 11= .box m 0) ?_ λo e H' hh=>.inr ?_
   .have pF:=λe=>Aj hs1.ok hs1.tk w.tk (n:=O H.bx) (by simp) (.exit 0) (λ_ _=>rfl) e;have c2:(0 :Int)<((v+1 :Nat):Int):=by omega
    generalize ((v+1 :Nat):Int)=v1 at *;rw[aO] at pF
    conv in bd a24 0=>reduce
    simp[-bX,-ay,aO,pF,e1,e4,em,ri,dU,qj,dN,sF,fw,hval,c2,c3]
   .obtain⟨rfl,rfl,g2,g5,g8,g9,g10,g11⟩:=hh;rw[<-je,ak2];refine⟨by simp,rfl,⟨hs1,?_,w.l1,?_,w.l3,w.tk⟩,by simp,by simp[dN],g2,g5,g8,g9,g10,g11⟩
    .have :m≠1:=λe=>by have:=w.l1;rw[<-e,w.w.mod.1] at this;cases this
     rw[bp this,hb1]
    .have :m≠3:=λe=>by have:=w.l3;rw[<-e,w.w.mod.1] at this;cases this
     rw[bp this,w.b3]
def ji(bb:List Bn):List (Int×List Int):=bb.map λb=>(b.lo.ar,els b.lo.tu)
theorem Qh:∀{cs:List D} {ps:List PD},gI cs=Z ps->cs=ps.map .p
 |[],_,h=>by cases h;rfl
 | .p x::r,ps,h=>by
  simp only[gI] at h;obtain⟨y,hy,rfl⟩:=ak.1 h;rw[Qh hy];rfl
theorem xP(cs:List D):(cX cs).cells=cs:=by
 unfold cX;cases h:gI cs with
 |none=>rfl
 |some ps=>exact(Qh h).symm
theorem ak3{lab:Nat->ep}{S:fV}(w:Dc H lab m at_ al bs a sst lp S){R:List (Int×List Int)}(hd:iN H lab (O S) d13 R)(hne:R=[]->d13= .p .aj)(hR:O R<1000000)(b:Bn)(hb:b.lo.tu≠.cJ)(hbl:O (els b.lo.tu)<=100000)(xs:List PD)(_:O H.bx<900000000):
    ∃d' H2 H4 vS,au (call pg) 74 [.p (ax b.lo.tu)] ⟨H.bx++[xs.map .p],[]⟩=Z (.val d',H2)/\H2.tk=[]/\(O H2.bx=O H.bx+1\/O H2.bx=O H.bx+2)/\
     d'.cells=[d']/\d'.one=true/\
     dx 85 2 32 d13 1 [.p (.int .i64 b.lo.ar),d'] ⟨H2.bx++[[.p (.int .i64 b.lo.ar),d']],[]⟩=Z (.ae (O H2.bx+1) 85 (O R+1) 2,H4)/\O H4.bx=O H2.bx+2/\(∀cs,H.bx[m]? =Z cs->H4.bx[m]? =Z cs)/\
     Dc H4 vS m at_ al bs a sst lp S/\iN H4 vS (O S) (.ae (O H2.bx+1) 85 (O R+1) 2) (R++[(b.lo.ar,els b.lo.tu)]):=by
 have w1:=w.w.snoc (xs.map .p) (by rw[qP];simp) (tB xs) [];have cO:iN ⟨H.bx++[xs.map .p],[]⟩ lab (O S) d13 R:=hd.oz (λ_ _=>rfl) λi cs _ h=>nJ h _;have f1:∀(i:Nat) cs,H.bx[i]? =Z cs->(H.bx++[xs.map D.p])[i]? =Z cs:=λi cs h=>nJ h _;generalize Qi:(⟨H.bx++[xs.map .p],[]⟩:Hp)=H1 at *;have jO:O H1.bx=O H.bx+1:=by rw[<-Qi];simp
 have CD:H1.tk=[]:=by rw[<-Qi]
 have Yv:∀(i:Nat) cs,H.bx[i]? =Z cs->H1.bx[i]? =Z cs:=λi cs h=>by rw[<-Qi];exact f1 i cs h
 obtain⟨d',H2,xQ,hr,kP,FN,wS,hH2⟩:=Ym b.lo.tu hb hbl H1
 -- the copy's variable has its name
 obtain⟨lab2,w2,gp,g2,ny,f2,n2,hl2,tJ⟩:∃lab2,Wk H2 lab2 4 2 m at_ al bs sst lp S/\iN H2 lab2 (O S) d13 R/\(∀i∈cK d',lab2 i= .row (O S) (O R))/\(∀x∈d'.refs,lab2 x≠.none)/\(∀(i:Nat) cs,H1.bx[i]? =Z cs->H2.bx[i]? =Z cs)/\(∀i,i<O H1.bx->lab2 i=lab i)/\(O H2.bx=O H.bx+1\/O H2.bx=O H.bx+2)/\H2.tk=[]:=by
  rcases hH2 with⟨rfl,h1,h2⟩ |⟨rfl,rfl⟩
  .exact⟨lab,w1,cO,by rw[h1];simp,by rw[h2];simp,λ_ _ h=>h,λ_ _=>rfl,.inl jO,CD⟩
  .refine⟨ml lab (O H1.bx) (.row (O S) (O R)),w1.IY _ (by rw[Cb];simp) (Cc _) _ _,cO.oz (λi hi=>pD _ (w1.fr _ (aK _)) hi) λi cs _ h=>nJ h _,?_,?_,λi cs h=>nJ h _,λi hi=>xI lab _ (by omega),.inr (by simp;omega),CD⟩
   .intro i hi;have :i=O H1.bx:=by simpa[cK] using hi
    rw[this,Ct]
   .intro i hi;have :i=O H1.bx:=by simpa[D.refs] using hi
    rw[this,Ct];simp
 have w3:=w2.snoc [.p (.int .i64 b.lo.ar),d'] (by simpa[D.ai,D.refs] using ny) (by simp[D.aC,D.bk,kP]) [];have tA:iN ⟨H2.bx++[[.p (.int .i64 b.lo.ar),d']],[]⟩ lab2 (O S) d13 R:=gp.oz (λ_ _=>rfl) λi cs _ h=>nJ h _;have hr3:fE ⟨H2.bx++[[.p (.int .i64 b.lo.ar),d']],[]⟩ d' (els b.lo.tu):=hr.other λi hi=>by
  have:=w2.lt (x:=i) (by rw[g2 i hi];simp);exact aT this
 obtain⟨H4,e1,e2,e3,e4,e5,e6⟩:=w3.N7 (a:=b.lo.ar) tA hr3 g2 hR hne kP;have Qj:O (⟨H2.bx++[[.p (.int .i64 b.lo.ar),d']],[]⟩:Hp).bx=O H2.bx+1:=by simp
 rw[Qj] at e1 e3 e4 e5;have ri:=(af.1 w.b1).1;have dU:=(af.1 w.b3).1;have dN:m<O H.bx:=w.w.lt (by rw[w.w.mod.1];simp);have fu:∀(i:Nat) cs,lab i= .none->H.bx[i]? =Z cs->H4.bx[i]? =Z cs:=λi cs hi h=>by
  have cW:=(af.1 h).1;exact e6 i cs (by rw[n2 i (by omega),hi];simp) (nJ (f2 i cs (Yv i cs h)) _)
 have qi:∀i,i<O H.bx->ml lab2 (O H2.bx+1) (.state (O S)) i=lab i:=λi hi=>by
  rw[xI _ _ (by omega),n2 i (by omega)]
 refine⟨d',H2,H4,_,xQ,tJ,hl2,wS,FN,e1,by omega,λcs hcs=>?_,⟨e4,fu 1 _ w.l1 w.b1,by rw[qi 1 ri];exact w.l1,fu 3 _ w.l3 w.b3,by rw[qi 3 dU];exact w.l3,e2⟩,e5⟩;exact e6 m cs (by rw[n2 m (by omega),w.w.mod.1];simp) (nJ (f2 m cs (Yv m cs hcs)) _)
theorem ak5{dz:Nat->ep}{s:Nat}{S:fV}(w0:Dc H0 dz m at_ al bs a sst lp S)(lB:∀b∈els bb,b.lo.tu≠.cJ/\O (els b.lo.tu)<=100000)(hbl:O (els bb)<=1000)(nG:O H0.bx<800000000)(gh:H0.bx[m]? =Z mc):
    post (λo e H'=>o= .exit 4/\∃(d13:D) (lab:Nat->ep),Dc H' lab m at_ al bs a sst lp S/\iN H' lab (O S) d13 (ji (els bb))/\d13.bk=[]/\d13.cells=[d13]/\d13.one=true/\H'.bx[m]? =Z mc/\O H'.bx<=O H0.bx+4*O (els bb)/\e.get 2= .p (cM bb)/\e.get 8= .box 3 0/\e.get 9= .ro C 0/\e.get 10= .box 4 0/\e.get 11= .box m 0/\e.get 13=d13/\e.get 43= .p (.int .i64 sst)/\e.get 44= .p (.int .i64 ((s:Nat):Int)))
     (dB (call pg) pg.G [2,8,9,10,11,13,43,44,46,47,48] (bd a24 2) ⟨[(2,.p (cM bb)),(8,.box 3 0),(9,.ro C 0),(10,.box 4 0),(11,.box m 0),(13,.p .aj),(43,.p (.int .i64 sst)),(44,.p (.int .i64 ((s:Nat):Int))),(46,.p (cM bb)),(47,.p (.int .i64 ((O (els bb):Nat):Int))),(48,.p (.int .i64 0))],H0⟩):=by
 refine dT (c:=call pg) (G:=pg.G) (σ:=Nat×Hp×D) (λt=>[(2,.p (cM bb)),(8,.box 3 0),(9,.ro C 0),(10,.box 4 0),(11,.box m 0),(13,t.2.2),(43,.p (.int .i64 sst)),(44,.p (.int .i64 ((s:Nat):Int))),(46,.p (cM bb)),(47,.p (.int .i64 ((O (els bb):Nat):Int))),(48,.p (.int .i64 ((t.1:Nat):Int)))]) (λt=>t.2.1) (λt=>O (els bb)-t.1)
  (λt=>t.1<=O (els bb)/\O t.2.1.bx<=O H0.bx+4*t.1/\t.2.1.bx[m]? =Z mc/\(t.1=0->t.2.2= .p .aj)/\t.2.2.bk=[]/\t.2.2.cells=[t.2.2]/\t.2.2.one=true/\∃lab,Dc t.2.1 lab m at_ al bs a sst lp S/\iN t.2.1 lab (O S) t.2.2 ((ji (els bb)).take t.1)) _ ?_ (0,H0,.p .aj) ⟨bD _,by simp,gh,λ_=>rfl,rfl,rfl,rfl,dz,w0,.inl ⟨rfl,rfl⟩⟩
 rintro⟨f,H,d13⟩ ⟨i1,i2,i3,i4,i5,i6,i7,lab,w,hd⟩;dsimp only at i1 i2 i3 i4 i5 i6 i7 w hd|-;have cN:O (ji (els bb))=O (els bb):=by simp[ji]
 by_cases hlt:f<O (els bb)
 .have eV:=dw hlt;have aS:=pz hlt;have aO:=w.tk;have Ad:(ji (els bb))[f]? =Z ((els bb)[f].lo.ar,els (els bb)[f].lo.tu):=by simp[ji,hlt]
  have po:O ((ji (els bb)).take f)=f:=by simp[cN];omega
  have hst:=ak3 w hd (λh=>i4 (by rw[h] at po;simpa using po.symm)) (by rw[po];omega) (els bb)[f] (lB _ eV).1 (lB _ eV).2 [.int .i64 (els bb)[f].lo.ar,ax (els bb)[f].lo.tu,.int .i64 (els bb)[f].up.ar,ax (els bb)[f].up.tu] (by omega);rw[po] at hst;obtain⟨d',H2,H4,vS,xQ,t2,l2,dc,d1,ca,l4,jL,w4,Qk⟩:=hst;have Ql:(ji (els bb)).take (f+1)=(ji (els bb)).take f++[((els bb)[f].lo.ar,els (els bb)[f].lo.tu)]:=by
   rw[ub,Ad];rfl
  have inc:=bt (k:=f) (by omega);have nL:((f:Nat):Int)<((O (els bb):Nat):Int):=by omega
  refine aG (Q:=nx [2,8,9,10,11,13,43,44,46,47,48] [(2,.p (cM bb)),(8,.box 3 0),(9,.ro C 0),(10,.box 4 0),(11,.box m 0),(13,.ae (O H2.bx+1) 85 (f+1) 2),(43,.p (.int .i64 sst)),(44,.p (.int .i64 ((s:Nat):Int))),(46,.p (cM bb)),(47,.p (.int .i64 ((O (els bb):Nat):Int))),(48,.p (.int .i64 ((f+1 :Nat):Int)))] H4) ?_ λo e H' hh=>.inl ⟨(f+1,H4,.ae (O H2.bx+1) 85 (f+1) 2),⟨hlt,by dsimp only;omega,jL _ i3,λh=>absurd h (by simp),rfl,rfl,rfl,vS,w4,by dsimp only;rw[Ql];exact Qk⟩,by dsimp only;omega,hh⟩;generalize (els bb)[f]=b at *;simp only[cB,j4] at xQ
  conv in bd a24 2=>reduce
  rcases l2 with l2 |l2
  .simp[-bX,-ay,-cX,-gI,aO,nL,aS,fw,xP,xQ,dc,d1,l2,t2,gX,ca];rw[if_pos ⟨by omega,.inl (by split<;>first |rfl |(split<;>rfl))⟩];simp[-bX,-ay,-cX,-gI,inc]
  .simp[-bX,-ay,-cX,-gI,aO,nL,aS,fw,xP,xQ,dc,d1,l2,t2,gX,ca];rw[if_pos ⟨⟨by omega,λh=>by omega⟩,.inl (by split<;>first |rfl |(split<;>rfl))⟩];simp[-bX,-ay,-cX,-gI,inc]
 .have hf:f=O (els bb):=by omega
  have nL:¬((f:Nat):Int)<((O (els bb):Nat):Int):=by omega
  refine aG (Q:=λo e H'=>o= .exit 4/\H'=H/\e.get 2= .p (cM bb)/\e.get 8= .box 3 0/\e.get 9= .ro C 0/\e.get 10= .box 4 0/\e.get 11= .box m 0/\e.get 13=d13/\e.get 43= .p (.int .i64 sst)/\e.get 44= .p (.int .i64 ((s:Nat):Int))) ?_ λo e H' hh=>.inr ?_
  .generalize ((f:Nat):Int)=f1 at *
   conv in bd a24 2=>reduce
   simp[-bX,-ay,nL]
  .obtain⟨rfl,rfl,hg⟩:=hh;refine⟨by simp,rfl,d13,lab,w,?_,i5,i6,i7,i3,by omega,hg⟩;rw[hf,<-cN,lQ] at hd;exact hd
theorem CE:∀l:List (Int×Int),D.ai (cw l)=[]
 |[]=>rfl
 |x::l=>by simp[cw,D.ai,D.refs,CE l]
theorem CF:∀l:List (Int×Int),D.aC (cw l)=[]
 |[]=>rfl
 |x::l=>by simp[cw,D.aC,D.bk,CF l]
theorem Yw(g:Nat->Nat):∀l:List (Int×Int),D.aU g (cw l)=cw l
 |[]=>rfl
 |x::l=>by simp[cw,D.aU,D.mv,Yw g l]
theorem KN(f g:Nat->Option Nat):∀l:List (Int×Int),D.aZ f g (cw l)=Z (cw l)
 |[]=>rfl
 |x::l=>by simp[cw,D.aZ,D.ren,KN f g l]
theorem Ak:∀l:List (Int×Int),O (cw l)=O l*2
 |[]=>rfl
 |x::l=>by simp only[cw,ew,Ak l];omega
theorem KO(l:List (Int×Int)):ay (cw l)=false:=by cases l<;>rfl
theorem Qm:∀a b:List (Int×Int),cw (a++b)=cw a++cw b
 |[],_=>rfl
 |x::a,b=>by simp[cw,Qm a b]
theorem KP(l:List (Int×Int)):(cw l).take (O l*2)=cw l:=fK (by rw[Ak];exact aK _)
theorem Qn(h:l≠[]):cw l≠[]:=by
 cases l with
 |nil=>exact absurd rfl h
 |cons x l=>simp[cw]
def kC:Kd (Int×Int):=⟨cw,102,2,82,77,CE,CF,Yw⟩
theorem ak6{q:Nat}(hq:H.bx[q]? =Z [.p (.int .i64 ar),.p .aj])(hx:x≠1):
    au (call pg) 106 [.box q 0,.p (.int .i64 r),.p (.int .i64 x)] H=Z (.val .undef,⟨H.bx.set q [.p (.int .i64 ar),.ae (O H.bx) 102 1 2]++[cw [(r,x)]],H.tk⟩):=by
 have hc:call pg 106 [.box 0 0,.p (.int .i64 r),.p (.int .i64 x)] ⟨[[.p (.int .i64 ar),.p .aj]],[]⟩=Z (.val .undef,⟨[[.p (.int .i64 ar),.ae 1 102 1 2],cw [(r,x)]],[]⟩):=by
  have hf:E8=E8:=rfl
  conv at hf=>rhs;reduce
  refine Gy rfl (W4.trans hf) rfl rfl ?_;clear hf;simp[-ay,fw,hx,gX,dJ,dx,iT,roomy,cw]
 have hr2:∀n,reach H n [q]=[q]
  | 0=>rfl
  |n+1=>by simp[reach,eQ,hq,D.ai,D.refs]
 have e1:ins [] (D.ai [.box q 0,.p (.int .i64 r),.p (.int .i64 x)])=[q]:=by simp[D.ai,D.refs,ins]
 unfold au;simp only[e1,hr2];simp[D.aC,D.bk,gM,hq,ins,nodupB,idx,D.aZ,D.ren,aH,hc,back,iD,bR.ren,bZ,KN]
theorem ak7{q k:Nat}(hq:H.bx[q]? =Z [.p (.int .i64 ar),.ae k 102 (O l) 2])(hk:H.bx[k]? =Z (cw l))(tR:k≠q)(hne:l≠[])(hl:O l<1000000)(hx:x≠1):
    au (call pg) 106 [.box q 0,.p (.int .i64 r),.p (.int .i64 x)] H=Z (.val .undef,⟨(H.bx.set q [.p (.int .i64 ar),.ae (O H.bx) 102 (O l+1) 2]).set k []++[cw (l++[(r,x)])],H.tk⟩):=by
 have xk:=Qn hne;have aO:=KP l;have hro:roomy (O l+1) 16=true:=by simp[roomy];omega
 have rj:¬((O l+1)*2<=O l*2):=by omega
 have hc:call pg 106 [.box 0 0,.p (.int .i64 r),.p (.int .i64 x)] ⟨[[.p (.int .i64 ar),.ae 1 102 (O l) 2],cw l],[]⟩=Z (.val .undef,⟨[[.p (.int .i64 ar),.ae 2 102 (O l+1) 2],[],cw (l++[(r,x)])],[]⟩):=by
  have hap:cw l++[.p (.int .i64 r),.p (.int .i64 x)]=cw (l++[(r,x)]):=by rw[Qm];rfl
  have hf:E8=E8:=rfl
  conv at hf=>rhs;reduce
  refine Gy rfl (W4.trans hf) rfl rfl ?_;clear hf;simp[-ay,fw,KO,hx,gX,dJ,dx,xk,aO,hro,rj,Ak,hap]
 have Yx:¬q=k:=λh=>tR h.symm;have hr2:∀n,reach H (n+1) [q]=[q,k]:=by
  have oX:nu H [q,k]:=by
   intro i hi cs hcs y hy;simp only[cq,iC,or_false] at hi|-;rcases hi with rfl |rfl
   .rw[hq] at hcs;cases hcs;have :y=k:=by simpa[D.ai,D.refs] using hy
    exact .inr this
   .rw[hk] at hcs;cases hcs;rw[CE] at hy;cases hy
  intro n;have iG:ins [q] [k]=[q,k]:=by simp[ins,tR]
  simp only[reach,eQ,hq,D.ai,D.refs,iQ,fF,iG];exact Ei oX n
 have tS:=(af.1 hq).1;obtain⟨N,hN⟩:∃N,O H.bx=N+1:=⟨O H.bx-1,by omega⟩;have e1:ins [] (D.ai [.box q 0,.p (.int .i64 r),.p (.int .i64 x)])=[q]:=by simp[D.ai,D.refs,ins]
 have e2:nodupB [q,k]=true:=by simp[nodupB,Yx]
 have hr3:=hr2 N;rw[<-hN] at hr3;unfold au;simp only[e1,hr3];simp[D.aC,D.bk,gM,hq,hk,CF,ins,nodupB,idx,Yx,D.aZ,D.ren,aH,KN,hc,back,iD,bR.ren,bZ]
theorem Yy{nb x:Nat}{cs:List D}(hi:i<nb)(hc:H.bx[i]? =Z cs)(hx:x∈D.ai cs)(hn:¬x<nb)(o:Out)(e:Env):bX nb 0 (o,⟨e,H⟩)=(o,⟨e,H⟩):=by
 unfold bX;split
 .dsimp only;have :aH (D.aZ (below nb) (below 0)) (H.bx.take nb)=Y:=by
   cases h:aH (D.aZ (below nb) (below 0)) (H.bx.take nb) with
   |none=>rfl
   |some bx=>
    have hm:cs∈H.bx.take nb:=by
     have :(H.bx.take nb)[i]? =Z cs:=by rw[kX hi,hc]
     exact bB this
    obtain⟨j,hj⟩:=Ej _ _ h cs hm x hx;simp[below,hn] at hj
  rw[this]
 .rfl
structure KQ (ar:Int) (L:List (Int×Int)) (H:Hp) (d:D):Prop where
 b1:H.bx[1]? =Z [.p (.int .i64 0),.p .aj]
 b2:H.bx[2]? =Z [.p (.int .i64 ar),d]
 row:fR kC H d L
 ids:∀i∈cQ d,3<=i/\i<O H.bx
 vQ:d≠.cC 102 2 []
 tk:H.tk=[]
 rf:∀(i:Nat) cs,H.bx[i]? =Z cs->(i≠2->D.ai cs=[])/\D.aC cs=[]
theorem ak8{L:List (Int×Int)}{d:D}(c:KQ ar L H d)(hL:O L<1000000):
    ∃H2 d2,au (call pg) 106 [.box 2 0,.p (.int .i64 r),.p (.int .i64 0)] H=Z (.val .undef,H2)/\KQ ar (L++[(r,0)]) H2 d2/\O H2.bx=O H.bx+1/\∀o e,bX (O H.bx) 0 (o,⟨e,H2⟩)=(o,⟨e,H2⟩):=by
 obtain⟨b1,b2,row,ids,vQ,tk,rf⟩:=c;have eu:=(af.1 b2).1;cases row with
 |emp=>exact absurd rfl vQ
 |aj=>
  have hb2:(H.bx.set 2 [.p (.int .i64 ar),.ae (O H.bx) 102 1 2]++[cw [(r,0)]])[2]? =Z [.p (.int .i64 ar),.ae (O H.bx) 102 1 2]:=by
   rw[aT (by simp;omega),eA eu]
  refine⟨_,.ae (O H.bx) 102 1 2,ak6 b2 (by decide),⟨?_,hb2,?_,?_,by simp,tk,?_⟩,by simp,λo e=>Yy eu hb2 (x:=O H.bx) (by simp[D.ai,D.refs]) (by omega) o e⟩
  .rw[aT (by simp;omega),bp (by decide),b1]
  .refine .row (O H.bx) [(r,0)] ?_ (by simp);dsimp only;rw[cR (by simp)];simp[kC]
  .intro i hi;simp only[cQ,nT] at hi;simp;omega
  .intro i cs hi;rcases ox hi with⟨_,h⟩ |⟨_,rfl⟩
   .rcases oy h with⟨rfl,rfl⟩ |⟨_,h⟩
    .exact⟨λh=>absurd rfl h,by simp[D.aC,D.bk]⟩
    .exact rf i cs h
   .exact⟨λ_=>CE _,CF _⟩
 |row k _ hk hne=>
  have hk3:=ids k (by simp[cQ]);have hb2:((H.bx.set 2 [.p (.int .i64 ar),.ae (O H.bx) 102 (O L+1) 2]).set k []++[cw (L++[(r,0)])])[2]? =Z [.p (.int .i64 ar),.ae (O H.bx) 102 (O L+1) 2]:=by
   rw[aT (by simp;omega),bp (by omega),eA eu]
  have e1:O (L++[(r,0)])=O L+1:=by simp
  refine⟨_,.ae (O H.bx) 102 (O (L++[(r,0)])) 2,ak7 b2 hk (by omega) hne hL (by decide),⟨?_,by rw[e1];exact hb2,?_,?_,by simp,tk,?_⟩,by simp,λo e=>Yy eu hb2 (x:=O H.bx) (by simp[D.ai,D.refs]) (by omega) o e⟩
  .rw[aT (by simp;omega),bp (by omega),bp (by decide),b1]
  .refine .row (O H.bx) (L++[(r,0)]) ?_ (by simp);dsimp only;rw[cR (by simp)];simp[kC]
  .intro i hi;simp only[cQ,nT] at hi;simp;omega
  .intro i cs hi;rcases ox hi with⟨_,h⟩ |⟨_,rfl⟩
   .rcases oy h with⟨_,rfl⟩ |⟨hik,h⟩
    .exact⟨λ_=>rfl,rfl⟩
    .rcases oy h with⟨rfl,rfl⟩ |⟨bJ,h⟩
     .exact⟨λh=>absurd rfl h,by simp[D.aC,D.bk]⟩
     .exact rf i cs h
   .exact⟨λ_=>CE _,CF _⟩
def xR(tu:Sl Int)(i:Nat):Env:=[(2,.box 1 0),(3,.box 2 0),(10,.p (ax tu)),(11,.p (.int .i64 ((O (els tu):Nat):Int))),(12,.p (.int .i64 ((i:Nat):Int)))]
theorem ak9(tu:Sl Int)(i:Nat):(xR tu i).keep [2,3,10,11,12]=xR tu i:=rfl
theorem ala(r:Rl)(hl:O (els r.tu)<1000000):
    ∃d H,call pg 58 [.p r.p] ⟨[],[]⟩=Z (.val (cX [.p (.int .i64 r.ar),d]),H)/\O H.bx<=3+O (els r.tu)/\fR kC H d ((els r.tu).map λx=>(x,0))/\d≠.cC 102 2 []/\(∀i∈cQ d,i<O H.bx)/\∀cs∈H.bx,(∀x∈D.ai cs,x∈cQ d)/\D.aC cs=[]:=by
 obtain⟨ar,tu⟩:=r;dsimp only at hl|-;have key:post (λo e H'=>o= .exit 0/\e.get 2= .box 1 0/\e.get 3= .box 2 0/\O H'.bx=3+O (els tu)/\∃d,KQ ar ((els tu).map λx=>(x,0)) H' d) (dB (call pg) pg.G [2,3,10,11,12] (bd xr 0) ⟨xR tu 0,⟨[[.p (.int .i64 ar),.p (ax tu)],[.p (.int .i64 0),.p .aj],[.p (.int .i64 ar),.p .aj]],[]⟩⟩):=by
  refine dT (c:=call pg) (G:=pg.G) (σ:=Nat×Hp) (λs=>xR tu s.1) (λs=>s.2) (λs=>O (els tu)-s.1)
   (λs=>s.1<=O (els tu)/\O s.2.bx=3+s.1/\∃d,KQ ar (((els tu).take s.1).map λx=>(x,0)) s.2 d) _ ?_ (0,_) ⟨bD _,rfl,.p .aj,⟨rfl,rfl,.aj,by simp[cQ],by simp,rfl,λi cs hi=>?_⟩⟩
  .rintro⟨i,H⟩ ⟨h1,h2,d,c⟩;dsimp only at h1 h2 c|-;rw[ak9];have aO:=c.tk;rcases fA i (O (els tu)) with h |h
   .have ia:=eK h;have inc:=bt (k:=i) (by omega);have hlt:(i:Int)<(O (els tu):Int):=by omega
    obtain⟨H2,d2,q1,q2,q3,q4⟩:=ak8 (r:=(els tu)[i]) c (by simp;omega);have hL:((els tu).take (i+1)).map (λx=>(x,(0 :Int)))=((els tu).take i).map (λx=>(x,0))++[((els tu)[i],0)]:=by
     rw[ub,aD h,oJ];rfl
    rw[<-hL] at q2;have tJ:=q2.tk;refine aG (Q:=nx [2,3,10,11,12] (xR tu (i+1)) H2) ?_ λo e H' hh=>.inl ⟨(i+1,H2),⟨by dsimp only;omega,by dsimp only;omega,d2,q2⟩,by dsimp only;omega,hh⟩;unfold xR;generalize (els tu)[i]=r at *;generalize ((i:Nat):Int)=iI at *;generalize ((i+1 :Nat):Int)=iJ at *
    conv in bd xr 0=>reduce
    simp[-ay,-bX,ia,inc,hlt,q1,q4,fM,aO]
   .have hi:i=O (els tu):=by omega
    subst hi;rw[lQ] at c;refine aG (Q:=λo e H'=>o= .exit 0/\e.get 2= .box 1 0/\e.get 3= .box 2 0/\H'=H) ?_ λo e H' hh=>.inr ⟨by rw[hh.1];simp,hh.1,hh.2.1,hh.2.2.1,by rw[hh.2.2.2];exact h2,by rw[hh.2.2.2];exact⟨d,c⟩⟩;have pF:=λe=>Aj (H:=H) (λi cs hi x hx=>by
     by_cases h2:i=2
     .subst h2;rw[c.b2] at hi;cases hi;have :x∈d.refs:=by simpa[D.ai,D.refs] using hx
      exact(c.ids x (c.row.refs x this)).2
     .rw[(c.rf i cs hi).1 h2] at hx;cases hx) (λi cs hi=>(c.rf i cs hi).2) aO rfl (.exit 0) (λ_ _=>rfl) e
    unfold xR;have ri:=(af.1 c.b1).1;have eu:=(af.1 c.b2).1
    conv in bd xr 0=>reduce
    simp[-ay,-bX,pF,aO,ri,eu]
  .have:=(bB hi);simp only[cq,iC,or_false] at this;rcases this with rfl |rfl |rfl<;>exact⟨λ_=>by simp[D.ai,D.refs],by simp[D.aC,D.bk]⟩
 obtain⟨o,e,H',hx,rfl,g2,g3,hlen,d,c⟩:=bC key;obtain⟨bx,tk⟩:=H';have aO:tk=[]:=c.tk;subst aO;have hb1:=c.b1;have hb2:=c.b2;dsimp only at hb1 hb2 hlen;have eJ:(bx.set 1 [.p (.int .i64 ar),d])[1]? =Z [.p (.int .i64 ar),d]:=eA (by omega);have hsp:aw [.p (.int .i64 0),.p .aj] 0 [.p (.int .i64 ar),d]=[.p (.int .i64 ar),d]:=rfl;unfold xR at hx;have cO:=c.row.one;have jB:∃Hs,call pg 58 [.p (Rl.p ⟨ar,tu⟩)] ⟨[],[]⟩=Z (.val (cX [.p (.int .i64 ar),d]),Hs)/\Hs=⟨bx.set 1 [.p (.int .i64 ar),d],[]⟩:=by
  unfold Rl.p;dsimp only;have hb0:bd xr 0=bd xr 0:=rfl
  conv at hb0=>rhs;reduce
  have hf:xr=xr:=rfl
  conv at hf=>rhs;reduce
  rw[<-hb0] at hf;refine Cj (e58.trans hf) rfl rfl rfl rfl ?_;clear hf hb0;simp at hx;simp[-ay,-bX,-cX,-gI,bG,fw,xP,hx,g2,g3,hb1,hb2,eJ,cO,Vs.sub]
 obtain⟨Hs,h1,rfl⟩:=jB;refine⟨d,_,h1,by simp;omega,?_,c.vQ,λi hi=>by simpa using (c.ids i hi).2,λcs hcs=>?_⟩
 .refine c.row.other λi hi=>?_;have:=(c.ids i hi).1;dsimp only;rw[bp (by omega)]
 .obtain⟨i,hi⟩:=dV hcs;rcases oy hi with⟨_,rfl⟩ |⟨_,h⟩
  .exact⟨λx hx=>c.row.refs x (by simpa[D.ai,D.refs] using hx),by simp[D.aC,D.bk,c.row.bk]⟩
  .by_cases h2:i=2
   .subst h2;rw[c.b2] at h;cases h;exact⟨λx hx=>c.row.refs x (by simpa[D.ai,D.refs] using hx),by simp[D.aC,D.bk,c.row.bk]⟩
   .obtain⟨q1,q2⟩:=c.rf i cs h;exact⟨by rw[q1 h2];simp,q2⟩
theorem alb(r:Rl)(hl:O (els r.tu)<1000000)(bV:H.Ok)(ht:∀(i:Nat) cs,H.bx[i]? =Z cs->D.aC cs=[]):
    ∃d ts,au (call pg) 58 [.p r.p] H=Z (.val (cX [.p (.int .i64 r.ar),d]),⟨H.bx++ts,H.tk⟩)/\O ts<=3+O (els r.tu)/\fR kC ⟨H.bx++ts,H.tk⟩ d ((els r.tu).map λx=>(x,0))/\d≠.cC 102 2 []/\(∀i∈cQ d,O H.bx<=i/\i<O H.bx+O ts)/\∀cs∈ts,(∀x∈D.ai cs,x∈cQ d)/\D.aC cs=[]:=by
 obtain⟨d0,Hs,h1,h2,h3,h4,h5,h6⟩:=ala r hl;generalize (els r.tu).map (λx=>(x,(0 :Int)))=L at *;obtain⟨ids,i1,i2,i3,i4,i5,i6⟩:=NW (c:=call pg) (f:=58) (args:=[.p r.p]) bV rfl ht (by simp[D.ai,D.refs]);have rP:ids=[]:=by
  cases ids with
  |nil=>rfl
  |cons a l=>exact(i5 (λ_=>False) (by simp[D.ai,D.refs]) (λ_ _ h=>h.elim) a (by simp)).elim
 subst rP;have kK:(cX [.p (.int .i64 r.ar),d0]).refs=d0.refs/\(cX [.p (.int .i64 r.ar),d0]).bk=d0.bk/\∀g,(cX [.p (.int .i64 r.ar),d0]).mv g=cX [.p (.int .i64 r.ar),d0.mv g]:=by
  cases h3 with
  |aj=>exact⟨rfl,rfl,λ_=>rfl⟩
  |emp=>exact absurd rfl h4
  |row k l hk hl=>exact⟨rfl,rfl,λ_=>rfl⟩
 obtain⟨k,hk,hc⟩:=i6 (cX [.p (.int .i64 r.ar),d0]) Hs h1 (bD _) (λi cs hi x hx=>h5 x ((h6 cs (bB hi)).1 x hx)) (λcs hcs=>(h6 cs hcs).2) (λx hx=>h5 x (h3.refs x (by rw[<-kK.1];exact hx))) (by rw[kK.2.1];exact h3.bk);rw[kK.2.2] at hc;have hg:∀j,bK [] (O H.bx) j=O H.bx+j:=λj=>by simp[bK]
 generalize bK [] (O H.bx)=g at *;simp only[fH,tY,j4,pM] at hc hk;have xO:∀bx:List (List D),bZ bx [] []=bx:=λ_=>rfl;rw[xO] at hc;refine⟨d0.mv g,((Hs.bx).map (D.aU g)).take k,hc,?_,?_,?_,?_,?_⟩
 .rw[kY,bT];omega
 .cases h3 with
  |aj=>exact .aj
  |emp=>exact absurd rfl h4
  |row j l hj hne=>
   have jz:=(af.1 hj).1;have gi:k=O Hs.bx:=by
    rcases hk with⟨_,h,_⟩ |h
    .have:=h j (by rw[kK.1];simp[D.refs]);omega
    .simpa using h
   refine .row (g j) _ ?_ hne;dsimp only;rw[hg,cR (by omega),tZ,kX (by omega),cG,hj];exact congrArg Z (kC.mv g _)
 .cases h3 with
  |aj=>simp[D.mv]
  |emp=>exact absurd rfl h4
  |row j l hj hne=>simp[D.mv]
 .intro i hi;cases h3 with
  |aj=>simp[D.mv,cQ] at hi
  |emp=>exact absurd rfl h4
  |row j l hj hne=>
   have jz:=(af.1 hj).1;have gi:k=O Hs.bx:=by
    rcases hk with⟨_,h,_⟩ |h
    .have:=h j (by rw[kK.1];simp[D.refs]);omega
    .simpa using h
   have :i=g j:=by simpa[D.mv,cQ] using hi
   rw[this,hg,kY,bT];omega
 .intro cs hcs;obtain⟨cs0,hm,rfl⟩:=cA.1 (jn hcs);obtain⟨q1,q2⟩:=h6 cs0 hm;refine⟨λx hx=>?_,by rw[sj];exact q2⟩;rw[si] at hx;obtain⟨y,hy,rfl⟩:=cA.1 hx;have hy:=q1 y hy;cases h3 with
  |aj=>simp[cQ] at hy
  |emp=>exact absurd rfl h4
  |row j l hj hne=>
   have :y=j:=by simpa[cQ] using hy
   rw[this];simp[D.mv,cQ]
abbrev jY:=List (List (Int×List (Int×Int)))
theorem alc{d:D}(r:fR kC H d l)(c:Int×Int)(hl:O l<1000000):
    ∃bx,dx 102 2 16 d 1 [.p (.int .i64 c.1),.p (.int .i64 c.2)] H=Z (.ae (O H.bx) 102 (O l+1) 2,⟨bx++[cw (l++[c])],H.tk⟩)/\O bx=O H.bx/\(∀m,m∉cQ d->bx[m]? =H.bx[m]?)/\∀(m:Nat) cs,bx[m]? =Z cs->H.bx[m]? =Z cs\/cs=[]:=by
 cases r with
 |aj=>exact⟨H.bx,by simp[dx,iT,roomy,cw],rfl,λ_ _=>rfl,λ_ _ h=>.inl h⟩
 |emp=>exact⟨H.bx,by simp[dx,iT,roomy,cw,kC],rfl,λ_ _=>rfl,λ_ _ h=>.inl h⟩
 |row i _ hi hne=>
  have xk:=Qn hne;have aO:=KP l;have hro:roomy (O l+1) 16=true:=by simp[roomy];omega
  have rj:¬((O l+1)*2<=O l*2):=by omega
  have hap:cw l++[.p (.int .i64 c.1),.p (.int .i64 c.2)]=cw (l++[c]):=by rw[Qm];rfl
  have hi':H.bx[i]? =Z (cw l):=hi;refine⟨H.bx.set i [],?_,by simp,λm hm=>?_,λm cs hm=>?_⟩
  .simp[kC,dx,hi',KO,xk,Ak,rj,hro,aO,hap,-ay]
  .rw[bp (λh=>hm (by simp[cQ,h]))]
  .rcases oy hm with⟨_,rfl⟩ |⟨_,h⟩
   .exact .inr rfl
   .exact .inl h
theorem Yz{d:D}(h:fR kC H d l):ay [d]=false:=by
 cases h<;>rfl
theorem ald(x y z:D):aw [x,y] 0 [z]=[z,y]:=rfl
theorem ale(x y z:D):aw [x,y] 1 [z]=[x,z]:=rfl
variable{S:jY}
theorem alf(w:Wg kC H lab m [] [] fx S)(hb2:H.bx[b2]? =Z [.ae rk 3 (O rs) 1])(z7:H.bx[rk]? =Z (bz rs))
    {k s:Nat}  (hv:rs[k+1]? =Z x)  {a:Int}  (hR:S[s]? =Z R) (hf:R[f]? =Z (a,l)) (hl:O l<1000000) (_:O H.bx<1000000000):
    ∃Hs di,call pg 60 [.p (.agg [.int .i64 ((k+1 :Nat):Int),.int .i64 (s:Int),.int .i64 (f:Int),.int .i64 r]),.box m 0,.box b2 0] H=Z (.val .undef,Hs)/\
     Wg kC Hs di m [] [] fx (S.set s (R.set f (a,l++[(r,x)])))/\O H.bx<=O Hs.bx/\O Hs.bx<=O H.bx+3/\∀j,j<O H.bx->di j=lab j:=by
 have bW:s<O S:=(af.1 hR).1;have dZ:f<O R:=(af.1 hf).1;obtain⟨n9,hvx⟩:=af.1 hv;have w1:=w.snoc [.p (.int .i64 ((k+1 :Nat):Int)),.p (.int .i64 ((s:Nat):Int)),.p (.int .i64 ((f:Nat):Int)),.p (.int .i64 r)] (by simp[D.ai,D.refs]) rfl H.tk;obtain⟨s0,ds,q,cs,d',g1,g2,g3,g4,gq,g5,g6,g7,g8,g9,XE,PI⟩:=w1.ins hR hf (l':=l++[(r,x)]) (by simp);obtain⟨bx,i1,i2,i3,i4⟩:=alc g8 (r,x) hl;obtain⟨bh,z1,z2⟩:=PI bx H.tk i2 i3 i4;have hlen:O (l++[(r,x)])=O l+1:=by simp
 have qY:bx[q]? =Z cs:=(i3 q g9).trans g5;have m1:=xB g4 rfl;have m2:=xB g7 (Yz g8);have hsp:=XD (cs:=cs) (j:=f*2+1) (by omega) (.ae (O H.bx+1) 102 (O l+1) 2);rw[hlen] at z1;have tq:kC.e=102:=rfl;have qZ:kC.sz=2:=rfl;have iw:kC.enc=cw:=rfl;rw[tq,qZ,iw] at z1;have FO:kC.st=77:=rfl;have Qo:kC.rt=82:=rfl;rw[FO] at g1;rw[Qo] at g4;rw[tV 2 f] at z1 g7;have kO:q<O bx:=(af.1 qY).1;have PJ:(bx++[cw (l++[(r,x)])])[q]? =Z cs:=by rw[aT kO,qY]
 have kz:(H.bx++[([.p (.int .i64 ((k+1 :Nat):Int)),.p (.int .i64 ((s:Nat):Int)),.p (.int .i64 ((f:Nat):Int)),.p (.int .i64 r)]:List D)])[b2]? =Z [.ae rk 3 (O rs) 1]:=iB hb2 _;have alh:(H.bx++[([.p (.int .i64 ((k+1 :Nat):Int)),.p (.int .i64 ((s:Nat):Int)),.p (.int .i64 ((f:Nat):Int)),.p (.int .i64 r)]:List D)])[rk]? =Z (bz rs):=iB z7 _;refine⟨_,bh,?_,z1,?_,?_,λj hj=>z2 j (by simp;omega)⟩
 .have Ck:((s:Nat):Int)<((O S:Nat):Int):=by omega
  have PK:((f:Nat):Int)<((O R:Nat):Int):=by omega
  have iH:f*2+1+1<=O R*2:=by omega
  have ali:(0 :Int)<=((k+1 :Nat):Int):=by omega
  have alj:((k+1 :Nat):Int)<(O rs:Int):=by omega
  have alk:((k+1 :Nat):Int).toNat=k+1:=by omega
  have hvg:(bz rs)[k+1]? =Z (.p (.int .i64 x)):=by rw[Py n9,hvx]
  dsimp only at g1 g2 g5 i1;simp only[fF] at g1;generalize ((k+1 :Nat):Int)=k1 at *;generalize gi:k+1=kk at *;have hf:Pb=Pb:=rfl
  conv at hf=>rhs;reduce
  obtain⟨Hs,h1,h2⟩:=Cj (f:=60) (y:=.undef) (H:=H) (Q:=λHs=>Hs=⟨(bx++[cw (l++[(r,x)])]).set q (cs.set (f*2+1) (.ae (O (H.bx++[([.p (.int .i64 k1),.p (.int .i64 ((s:Nat):Int)),.p (.int .i64 ((f:Nat):Int)),.p (.int .i64 r)]:List D)])) 102 (O l+1) 2)),H.tk⟩) (aa:=[.p (.agg [.int .i64 k1,.int .i64 (s:Int),.int .i64 (f:Int),.int .i64 r]),.box m 0,.box b2 0]) (e60.trans hf) rfl rfl rfl rfl (by
   clear hf;simp[-aw,-ay,gX,dJ,fw,vO,vE,zV,ald,ale,iH,g1,g2,g4,g5,g7,bW,dZ,m1,m2,kz,alh,hvg,ali,alj,alk,i1,PJ,hsp,g6,Fq];rw[if_pos (by left;split<;>(try split)<;>rfl)];simp[])
  rw[h1,h2]
 .simp[i2];omega
 .simp[i2]
def FP(s f:Nat)(c:Int×Int)(S:jY):jY:=S.modify s λR=>R.modify f λp=>(p.1,p.2++[c])
theorem aln{β:Type}(g:List β->List β){S:List (List (Int×List β))}{s:Nat}{R:List (Int×List β)}{a:Int}{l:List β}(hR:S[s]? =Z R)(hf:R[f]? =Z (a,l)):S.set s (R.set f (a,g l))=S.modify s λR=>R.modify f λp=>(p.1,g p.2):=by
 apply lO;intro i;rw[nU,AD];by_cases h:s=i
 .subst h;have hl:=(af.1 hR).1;rw[if_pos rfl,if_pos hl,hR];show Z _=Z (if s=s then _ else _);rw[if_pos rfl];congr 1
  apply lO;intro k;rw[nU,AD];by_cases h:f=k
  .subst h;have hl:=(af.1 hf).1;rw[if_pos rfl,if_pos hl,hf];show Z _=Z (if f=f then _ else _);rw[if_pos rfl]
  .rw[if_neg h];cases R[k]? with
   |none=>rfl
   |some x=>
    show Z _=Z (if f=k then _ else _);rw[if_neg h]
 .rw[if_neg h];cases S[i]? with
  |none=>rfl
  |some x=>
   show Z _=Z (if s=i then _ else _);rw[if_neg h]
def kW(rs:List Int)(k s f:Nat)(r:Int)(S:jY):jY:=FP s f (r,rs.getD (k+1) 0) S
def Qp(rs:List Int)(k s f:Nat)(S:jY):Prop:=k+1<O rs/\∃R a l,S[s]? =Z R/\R[f]? =Z (a,l)/\O l<1000000
def jH(b2 rk:Nat)(rs:List Int):List (Nat×List D):=[(b2,[.ae rk 3 (O rs) 1]),(rk,bz rs)]
theorem alo(w:Wg kC H lab m [] [] (jH b2 rk rs) S){k s:Nat}(hp:Qp rs k s f S)(nG:O H.bx<1000000000):
    ∃H2 lab2,au (call pg) 60 [.p (.agg [.int .i64 ((k+1 :Nat):Int),.int .i64 (s:Int),.int .i64 (f:Int),.int .i64 r]),.box m 0,.box b2 0] H=Z (.val .undef,H2)/\
     Wg kC H2 lab2 m [] [] (jH b2 rk rs) (kW rs k s f r S)/\H2.tk=H.tk/\O H.bx<=O H2.bx/\O H2.bx<=O H.bx+3/\(∀j,j<O H.bx->lab2 j=lab j)/\∀j,j<O H.bx->lab j= .none->H2.bx[j]? =H.bx[j]?:=by
 obtain⟨hk,R,a,l,hR,hf,hl⟩:=hp;have hb2:=w.at_ (b2,[.ae rk 3 (O rs) 1]) (by simp[jH]);have a1:=w.an (x:=(b2,[.ae rk 3 (O rs) 1])) (by simp[jH]);refine w.call (K:=3) rfl ?_ (by simp[D.ai,D.refs]) ?_ ?_
 .intro x hx;have :x=m\/x=b2:=by simpa[D.ai,D.refs] using hx
  rcases this with rfl |rfl
  .exact w.mn
  .exact a1
 .intro ids hs hi x hx;have h2:b2∈ids:=hi b2 (by simp[D.ai,D.refs]);simp only[jH,cq,iC,or_false] at hx;rcases hx with rfl |rfl
  .exact h2
  .exact hs b2 h2 _ hb2 rk (by simp[D.ai,D.refs])
 .intro g H' bh w' _ hlen _;have q1:=w'.at_ (g b2,[.ae (g rk) 3 (O rs) 1]) (by simp[jH,wX,D.aU,D.mv]);have q2:=w'.at_ (g rk,bz rs) (by
   have :D.aU g (bz rs)=bz rs:=NZ g _;simp[jH,wX,this])
  have hv:rs[k+1]? =Z (rs.getD (k+1) 0):=by simp[im,hk]
  obtain⟨Hs,di,z1,z2,z3,z4,z5⟩:=alf w' q1 q2 hv hR hf hl (by omega);rw[aln (λl=>l++[(r,rs.getD (k+1) 0)]) hR hf] at z2;exact⟨Hs,di,z1,z2,z3,z4,z5⟩
theorem alp{S0:jY}{so f3 f4:PD}{fi:Sl Fi}(hst:1<=sst/\sst<=4)
    (hbl:O (els bb)=O (els fi)) (hl:O (els bb)<=1000) (hu:∀b∈els bb,O (els b.up.tu)<=900)
    (bV:∀(j:Nat) e,(cz (els fi) (els bb) sst)[j]? =Z e->Qg (kW rs) (Qp rs) ((els fi).map Fi.va) sst (((cz (els fi) (els bb) sst).take j).foldl (stepG (kW rs) ((els fi).map Fi.va) sst) S0) e)
      (w:Wg kC H dz m [] [] (jH b2 rk rs) S0) (aO:H.tk=[]) (nG:O H.bx<100000000):
    ∃Hs di,call pg 59 [.ro (dL so f3 f4 fi a sst bb (fU (bu 0 (els bb)))) 0,.fn 60 [] [.box m 0,.box b2 0]] H=Z (.val .undef,Hs)/\
     Wg kC Hs di m [] [] (jH b2 rk rs) ((cz (els fi) (els bb) sst).foldl (stepG (kW rs) ((els fi).map Fi.va) sst) S0)/\O H.bx<=O Hs.bx/\O Hs.bx<=O H.bx+100000000/\∀j,j<O H.bx->di j=dz j:=
 ak0 (by intro _ _ _ w;exact⟨w.mn,w.an (x:=(b2,[.ae rk 3 (O rs) 1])) (by simp[jH])⟩) (by intro _ _ _ w k s f r _ hp hH;exact alo w hp hH) hst hbl hl hu bV w aO nG
def sK(bb:Sl Bn)(C:List PD)(n p q i:Nat):Env:=[(2,.p (cM bb)),(7,.box p 0),(8,.box 3 0),(10,.ro C 0),(11,.box q 0),(29,.p (.int .i64 ((n:Nat):Int))),(30,.p (.int .i64 ((i:Nat):Int)))]
theorem alq(bb:Sl Bn)(C:List PD)(n p q i:Nat):(sK bb C n p q i).keep [2,7,8,10,11,29,30]=sK bb C n p q i:=rfl
def vT(g:PD):List D:=[.p g]
def Qq(H:Hp)(p q k:Nat)(g:PD)(rs:List Int)(x:Int):Hp:=
 ⟨(((((H.bx++[vT g])++[bz [x]]).set k [])++[bz (rs++[x])]).set p (vT g)).set q [.ae (O H.bx+2) 3 (O rs+1) 1],[]⟩
theorem alr{p q k n:Nat}{g g':PD}(ho:g.one=true)(Ba:g'.one=true)(hp:H.bx[p]? =Z [.p g])(hq:H.bx[q]? =Z [.ae k 3 (O rs) 1])(hk:H.bx[k]? =Z (bz rs))(vR:p≠q)(T8:k≠p)(tR:k≠q)(uZ:rs≠[])(ny:O rs<100000)(ht:H.tk=[])(cU:i<n)(hn:n<100000)(nG:O H.bx<900000)
    (Qr:∀H,au (call pg) 57 [.p (.agg [g]),.p (.int .i64 ((i+1 :Nat):Int))] H=Z (.val (.ba [.p (.agg [g']),.p (.int .i64 x)]),H)):
    post (nx [2,7,8,10,11,29,30] (sK bb C n p q (i+1)) (Qq H p q k g' rs x)) (aq (call pg) pg.G aM (bd dH 0) ⟨sK bb C n p q i,H⟩):=by
 obtain⟨bx,tk⟩:=H;dsimp only at ht hp hq hk nG;subst ht;have inc:=bt (k:=i) (by omega);have hlt:(i:Int)<(n:Int):=by omega
 have hpl:=(af.1 hp).1;have tS:=(af.1 hq).1;have eM:=(af.1 hk).1;have FQ:∀{j:Nat} {c:List D} (t:List (List D)),bx[j]? =Z c->(bx++t)[j]? =Z c:=λ{j c} t h=>by
  rw[aT (af.1 h).1,h]
 have CC:∀c:List D,(bx++[c])[q]? =Z [.ae k 3 (O rs) 1]:=λc=>FQ _ hq;have xO:∀c d:List D,(bx++[c,d])[p]? =Z [.p g]:=λc d=>FQ _ hp;have hka:∀c d:List D,(bx++[c,d])[k]? =Z (bz rs):=λc d=>FQ _ hk;have hpS:∀c d r:List D,((bx++[c,d]).set k []++[r])[p]? =Z [.p g]:=λc d r=>by
  rw[aT (by simp;omega),bp T8,FQ _ hp]
 have Qe:∀c d r:List D,((bx++[c,d]).set k []++[r])[q]? =Z [.ae k 3 (O rs) 1]:=λc d r=>by
  rw[aT (by simp;omega),bp tR,FQ _ hq]
 have hqT:∀c d r e:List D,(((bx++[c,d]).set k []++[r]).set p e)[q]? =Z [.ae k 3 (O rs) 1]:=λc d r e=>by
  rw[bp vR,Qe]
 have KL:=qW Ba;have arY:=qW ho;have hne:bz rs≠[]:=λh=>uZ (by
  have:=tO rs;rw[h] at this;exact CR.1 this.symm)
 have hr:roomy (O rs+1) 8=true:=by simp[roomy];omega
 have aO:=Ys rs;have rj:¬(O rs+1<=O rs):=by omega
 have h6:O bx+2<1000000:=by omega
 have h7:O bx+1<2000000000:=by omega
 have h8:¬1999999999<=O bx:=by omega
 have h9:¬q=O bx+1:=by omega
 have vH:∀n:Nat,¬(3+2*n=2):=λn=>by omega
 have hic:bz [x]=[.p (.int .i64 x)]:=rfl;have hon:∀g,vT g=[.p g]:=λ_=>rfl;unfold sK Qq;rw[hic,hon];generalize ((i:Nat):Int)=iI at *;generalize ((i+1 :Nat):Int)=iJ at *
 conv in bd dH 0=>reduce
 simp[-ay,CB,vO,vE,inc,hlt,hp,CC,hka,hpS,hqT,Ba,Qr,fM,h6,h7,h9,vH,hne,hr,aO,rj,gX,dx,tO,Yr];have uH:(4000000000+k*1000000+(O bx+2)-4000000000)/1000000=k:=by omega
 have Bk:(4000000000+k*1000000+(O bx+2)-4000000000)%1000000=O bx+2:=by omega
 rw[if_pos (by split;omega;split;omega;rw[uH,Bk];omega)];simp[-ay,inc]
structure Al (l0 l:List Gt) (p q k i:Nat) (rs:List Int) (H:Hp):Prop where
 hp:H.bx[p]? =Z [.p (bq (.of l))]
 hq:H.bx[q]? =Z [.ae k 3 (O rs) 1]
 hk:H.bx[k]? =Z (bz rs)
 kp:k≠p
 kq:k≠q
 h3:H.bx[3]? =Z [.p .aj]
 k3:k≠3
 tk:H.tk=[]
 len:O H.bx<=6+3*i
 rl:O rs=i+1
 rv:∀v:Nat,1<=v->v<=i->∃j:Nat,rs[v]? =Z (2*(j:Int))/\l[j]? =Z ⟨1,v,0⟩
 r0:rs[0]? =Z 0
 ext:∃t,l=l0++t/\∀g∈t,g.k=1
 ll:O l<=O l0+i
 pG:vN l
 rf:∀(j:Nat) cs,H.bx[j]? =Z cs->(j≠q->D.ai cs=[])/\D.aC cs=[]
theorem alx{l:List Gt}(h:vN l){v:Nat}(h1:1<=v)(h2:v<=20000):vN (l++[⟨1,v,0⟩]):=by
 obtain⟨q1,q2,q3⟩:=h;refine⟨by simp,iB q2 _,λi g hi hg=>?_⟩;rcases ox hg with⟨_,h⟩ |⟨_,rfl⟩
 .exact q3 i g hi h
 .exact .inl ⟨rfl,by show(1 :Int)<=(v:Int);omega,by show(v:Int)<=20000;omega,rfl⟩
theorem aly{l:List Gt}{p q k n:Nat}(c:Al l0 l p q k i rs H)(vR:p≠q)(tr:p≠3)(Qs:q≠3)(cU:i<n)(hn:n<=10000)(hl0:O l0<=1000):
    ∃(l2:List Gt) (k2:Nat) (Qt:List Int) (H2:Hp),Al l0 l2 p q k2 (i+1) Qt H2/\post (nx [2,7,8,10,11,29,30] (sK bb C n p q (i+1)) H2) (aq (call pg) pg.G aM (bd dH 0) ⟨sK bb C n p q i,H⟩):=by
 obtain⟨hp,hq,hk,kp,kq,h3,k3,tk,len,rl,rv,r0,ext,ll,pG,rf⟩:=c;obtain⟨l2,j,Qr,q1,q2⟩:=akx (l:=l) pG.1 (by omega) (v:=i+1) (by omega) (by omega);have uZ:rs≠[]:=λh=>by rw[h] at rl;simp at rl
 have hpl:=(af.1 hp).1;have tS:=(af.1 hq).1;have dU:=(af.1 h3).1;have oT:((2*j:Nat):Int)=2*(j:Int):=by omega
 refine⟨l2,O H.bx+2,rs++[((2*j:Nat):Int)],_,⟨?_,?_,?_,by omega,by omega,?_,by omega,rfl,?_,by simp;omega,λv h1 h2=>?_,iB r0 _,?_,?_,?_,λm cs hm=>?_⟩,alr (Cx _) (Cx _) hp hq hk vR kp kq uZ (by omega) tk cU (by omega) (by omega) Qr⟩
 .show((_:List (List D)).set q _)[p]? =_;rw[bp vR.symm,eA (by simp;omega)];rfl
 .show((_:List (List D)).set q _)[q]? =_;rw[eA (by simp;omega)];simp
 .show((_:List (List D)).set q _)[O H.bx+2]? =_;rw[bp (by omega),bp (by omega),cR (by simp)];simp
 .show((_:List (List D)).set q _)[3]? =_;rw[bp Qs,bp tr,aT (by simp;omega),bp k3,j2,aT dU,h3]
 .simp[Qq];omega
 .rcases fA v (i+1) with h |h
  .obtain⟨j',a1,a2⟩:=rv v h1 (by omega);refine⟨j',iB a1 _,?_⟩;rcases q2 with rfl |rfl
   .exact a2
   .exact iB a2 _
  .have :v=i+1:=by omega
   subst this;refine⟨j,?_,q1⟩;rw[cR (by omega),rl,oT];simp
 .obtain⟨t,rfl,ht⟩:=ext;rcases q2 with rfl |rfl
  .exact⟨t,rfl,ht⟩
  .refine⟨t++[⟨1,((i+1 :Nat):Int),0⟩],by simp,λg hg=>?_⟩;rcases cx.1 hg with h |h
   .exact ht g h
   .simp only[nT] at h;rw[h]
 .rcases q2 with rfl |rfl
  .omega
  .simp;omega
 .rcases q2 with rfl |rfl
  .exact pG
  .exact alx pG (by omega) (by omega)
 .have hm:(((((H.bx++[vT (bq (.of l2))])++[bz [((2*j:Nat):Int)]]).set k [])++[bz (rs++[((2*j:Nat):Int)])]).set p (vT (bq (.of l2))) |>.set q [.ae (O H.bx+2) 3 (O rs+1) 1])[m]? =Z cs:=hm;rcases oy hm with⟨rfl,rfl⟩ |⟨_,hm⟩
  .exact⟨λh=>absurd rfl h,by simp[D.aC,D.bk]⟩
  rcases oy hm with⟨rfl,rfl⟩ |⟨_,hm⟩
  .exact⟨λ_=>by simp[vT,D.ai,D.refs],by simp[vT,D.aC,D.bk]⟩
  rcases ox hm with⟨_,hm⟩ |⟨_,rfl⟩
  .rcases oy hm with⟨rfl,rfl⟩ |⟨_,hm⟩
   .exact⟨λ_=>rfl,rfl⟩
   rcases ox hm with⟨_,hm⟩ |⟨_,rfl⟩
   .rcases ox hm with⟨_,hm⟩ |⟨_,rfl⟩
    .exact rf m cs hm
    .exact⟨λ_=>by simp[vT,D.ai,D.refs],by simp[vT,D.aC,D.bk]⟩
   .exact⟨λ_=>Cb _,Cc _⟩
  .exact⟨λ_=>Cb _,Cc _⟩
theorem alz{p q k n:Nat}(c:Al l0 l0 p q k 0 rs H)(vR:p≠q)(tr:p≠3)(Qs:q≠3)(hn:n<=10000)(hl0:O l0<=1000):
    post (λo e H'=>o= .exit 0/\e.get 2= .p (cM bb)/\e.get 7= .box p 0/\e.get 8= .box 3 0/\e.get 10= .ro C 0/\e.get 11= .box q 0/\∃l k rs,Al l0 l p q k n rs H') (dB (call pg) pg.G [2,7,8,10,11,29,30] (bd dH 0) ⟨sK bb C n p q 0,H⟩):=by
 refine dT (c:=call pg) (G:=pg.G) (σ:=Nat×Hp) (λs=>sK bb C n p q s.1) (λs=>s.2) (λs=>n-s.1) (λs=>s.1<=n/\∃l k rs,Al l0 l p q k s.1 rs s.2) _ ?_ (0,H) ⟨bD _,l0,k,rs,c⟩;rintro⟨i,H⟩ ⟨h1,l,k,rs,c⟩;dsimp only at h1 c|-;rw[alq];rcases fA i n with h |h
 .obtain⟨l2,k2,Qt,H2,c2,hp⟩:=aly c vR tr Qs h hn hl0;exact aG hp λo e H' hh=>.inl ⟨(i+1,H2),⟨h,l2,k2,Qt,c2⟩,by dsimp only;omega,hh⟩
 .have :i=n:=by omega
  subst this;refine aG (Q:=λo e H'=>o= .exit 0/\e.get 2= .p (cM bb)/\e.get 7= .box p 0/\e.get 8= .box 3 0/\e.get 10= .ro C 0/\e.get 11= .box q 0/\H'=H) ?_ λo e H' hh=>.inr ⟨by rw[hh.1];simp,hh.1,hh.2.1,hh.2.2.1,hh.2.2.2.1,hh.2.2.2.2.1,hh.2.2.2.2.2.1,by rw[hh.2.2.2.2.2.2];exact⟨l,k,rs,c⟩⟩;unfold sK
  conv in bd dH 0=>reduce
  simp
structure Sx (H:Hp) (lab:Nat->dK) (m:Nat) (fx:List (Nat×List D)) (g:PD) (S:jY):Prop where
 w:Wg kC H lab m [] [] fx S
 b2:H.bx[2]? =Z [.p g]
 l2:lab 2= .none
 b3:H.bx[3]? =Z [.p .aj]
 l3:lab 3= .none
 tk:H.tk=[]
def jk(bb:List Bn):List (Int×List (Int×Int)):=bb.map λb=>(b.lo.ar,(els b.lo.tu).map λx=>(x,0))

variable{g : PD} 
theorem alA(x:Sx H lab m fx g S)(hd:jf kC H lab (O S) d13 R)(hne:R=[]->d13= .p .aj)(hR:O R<1000000)(b:Bn)(hbl:O (els b.lo.tu)<=100000)(xs:List PD):
    ∃d' ts H4 vS,au (call pg) 58 [.p b.lo.p] ⟨H.bx++[xs.map .p],[]⟩=Z (.val (cX [.p (.int .i64 b.lo.ar),d']),⟨(H.bx++[xs.map .p])++ts,[]⟩)/\O ts<=3+O (els b.lo.tu)/\d'.one=true/\
     dx 82 2 32 d13 1 [.p (.int .i64 b.lo.ar),d'] ⟨((H.bx++[xs.map .p])++ts)++[[.p (.int .i64 b.lo.ar),d']],[]⟩=Z (.ae (O H.bx+O ts+2) 82 (O R+1) 2,H4)/\O H4.bx=O H.bx+O ts+3/\(∀cs,H.bx[m]? =Z cs->H4.bx[m]? =Z cs)/\
     Sx H4 vS m fx g S/\jf kC H4 vS (O S) (.ae (O H.bx+O ts+2) 82 (O R+1) 2) (R++[(b.lo.ar,(els b.lo.tu).map λx=>(x,0))]):=by
 have w1:=x.w.snoc (xs.map .p) (by rw[qP];simp) (tB xs) [];have cO:jf kC ⟨H.bx++[xs.map .p],[]⟩ lab (O S) d13 R:=hd.oz (λ_ _=>rfl) λi cs _ h=>iB h _;have f1:∀(i:Nat) cs,H.bx[i]? =Z cs->(H.bx++[xs.map D.p])[i]? =Z cs:=λi cs h=>iB h _;obtain⟨d',ts,FR,mY,hr,-,YA,hrt⟩:=alb b.lo (by omega) w1.ok w1.tk;obtain⟨w2,n0,n1,n2,f2⟩:=w1.afp (ids:=cQ d') (.row (O S) (O R)) (by simp) YA hrt [];have gp:=cO.oz (H':=⟨(H.bx++[xs.map .p])++ts,[]⟩) n0 λi cs _ h=>f2 i cs h;have jO:O (H.bx++[xs.map D.p])=O H.bx+1:=by simp
 have ny:∀z∈d'.refs,qT lab (cQ d') (.row (O S) (O R)) z≠.none:=λz hz=>by rw[n2 z (hr.refs z hz)];simp
 have w3:=w2.snoc [.p (.int .i64 b.lo.ar),d'] (by simpa[D.ai,D.refs] using ny) (by simp[D.aC,D.bk,hr.bk]) [];have tA:=gp.oz (H':=⟨((H.bx++[xs.map .p])++ts)++[[.p (.int .i64 b.lo.ar),d']],[]⟩) (λ_ _=>rfl) λi cs _ h=>iB h _;have hr3:fR kC ⟨((H.bx++[xs.map .p])++ts)++[[.p (.int .i64 b.lo.ar),d']],[]⟩ d' ((els b.lo.tu).map λx=>(x,0)):=hr.other λi hi=>by
  have:=(YA i hi).2;exact aT (by simp at this|-;omega)
 obtain⟨H4,e1,e2,e3,e4,e5,e6⟩:=w3.N7 (a:=b.lo.ar) tA hr3 n2 hR hne;have Qj:O (⟨((H.bx++[xs.map .p])++ts)++[[.p (.int .i64 b.lo.ar),d']],[]⟩:Hp).bx=O H.bx+O ts+2:=by simp;omega
 rw[Qj] at e1 e3 e4 e5;have eu:=(af.1 x.b2).1;have dU:=(af.1 x.b3).1;have dN:m<O H.bx:=x.w.lt x.w.mn;have fu:∀(i:Nat) cs,i<O H.bx->lab i≠.state (O S)->H.bx[i]? =Z cs->H4.bx[i]? =Z cs:=λi cs cW hi h=>
  e6 i cs (by rw[n1 i (by simp;omega)];exact hi) (iB (f2 i cs (f1 i cs h)) _)
 have qi:∀i,i<O H.bx->mI (qT lab (cQ d') (.row (O S) (O R))) (O H.bx+O ts+2) (.state (O S)) i=lab i:=λi hi=>by
  rw[zy _ _ (by omega),n1 i (by simp;omega)]
 refine⟨d',ts,H4,_,FR,mY,hr.one,e1,by omega,λcs hcs=>fu m cs dN (by rw[x.w.mod.1];simp) hcs,⟨e4,fu 2 _ eu (by rw[x.l2];simp) x.b2,by rw[qi 2 eu];exact x.l2,fu 3 _ dU (by rw[x.l3];simp) x.b3,by rw[qi 3 dU];exact x.l3,e2⟩,e5⟩
theorem YB(a b:PD):cX [.p a,.p b]= .p (.agg [a,b]):=rfl
def xS(bb:Sl Bn)(C:List PD)(q m:Nat)(st:Int)(s:Nat)(d:D)(f:Nat):Env:=[(2,.p (cM bb)),(7,.box 2 0),(8,.box 3 0),(10,.ro C 0),(11,.box q 0),(15,.box m 0),(16,d),(50,.p (.int .i64 st)),(51,.p (.int .i64 ((s:Nat):Int))),(53,.p (cM bb)),(54,.p (.int .i64 ((O (els bb):Nat):Int))),(55,.p (.int .i64 ((f:Nat):Int)))]
theorem alB(bb:Sl Bn)(C:List PD)(q m:Nat)(st:Int)(s:Nat)(d:D)(f:Nat):(xS bb C q m st s d f).keep [2,7,8,10,11,15,16,50,51,53,54,55]=xS bb C q m st s d f:=rfl
theorem alC{q s:Nat}(w0:Sx H0 dz m fx g S)(lB:∀b∈els bb,O (els b.lo.tu)<=1000)(hbl:O (els bb)<=1000)(gh:H0.bx[m]? =Z mc):
    post (λo e H'=>o= .exit 4/\∃(d13:D) (lab:Nat->dK),Sx H' lab m fx g S/\jf kC H' lab (O S) d13 (jk (els bb))/\d13.one=true/\H'.bx[m]? =Z mc/\O H'.bx<=O H0.bx+1100*O (els bb)/\e.get 2= .p (cM bb)/\e.get 7= .box 2 0/\e.get 8= .box 3 0/\e.get 10= .ro C 0/\e.get 11= .box q 0/\e.get 15= .box m 0/\e.get 16=d13/\e.get 50= .p (.int .i64 sst)/\e.get 51= .p (.int .i64 ((s:Nat):Int)))
     (dB (call pg) pg.G [2,7,8,10,11,15,16,50,51,53,54,55] (bd dH 2) ⟨xS bb C q m sst s (.p .aj) 0,H0⟩):=by
 refine dT (c:=call pg) (G:=pg.G) (σ:=Nat×Hp×D) (λt=>xS bb C q m sst s t.2.2 t.1) (λt=>t.2.1) (λt=>O (els bb)-t.1)
  (λt=>t.1<=O (els bb)/\O t.2.1.bx<=O H0.bx+1100*t.1/\t.2.1.bx[m]? =Z mc/\(t.1=0->t.2.2= .p .aj)/\t.2.2.one=true/\∃lab,Sx t.2.1 lab m fx g S/\jf kC t.2.1 lab (O S) t.2.2 ((jk (els bb)).take t.1)) _ ?_ (0,H0,.p .aj) ⟨bD _,by simp,gh,λ_=>rfl,rfl,dz,w0,.inl ⟨rfl,rfl⟩⟩
 rintro⟨f,H,d13⟩ ⟨i1,i2,i3,i4,i7,lab,w,hd⟩;dsimp only at i1 i2 i3 i4 i7 w hd|-;rw[alB];have cN:O (jk (els bb))=O (els bb):=by simp[jk]
 by_cases hlt:f<O (els bb)
 .have eV:=dw hlt;have aS:=pz hlt;have aO:=w.tk;have Ad:(jk (els bb))[f]? =Z ((els bb)[f].lo.ar,(els (els bb)[f].lo.tu).map λx=>(x,(0 :Int))):=by simp[jk,hlt]
  have po:O ((jk (els bb)).take f)=f:=by simp[cN];omega
  have hst:=alA w hd (λh=>i4 (by rw[h] at po;simpa using po.symm)) (by rw[po];omega) (els bb)[f] (by have:=lB _ eV;omega) [.int .i64 (els bb)[f].lo.ar,ax (els bb)[f].lo.tu,.int .i64 (els bb)[f].up.ar,ax (els bb)[f].up.tu];rw[po] at hst;obtain⟨d',ts,H4,vS,FR,lts,d1,ca,l4,jL,w4,Qk⟩:=hst;have Ql:(jk (els bb)).take (f+1)=(jk (els bb)).take f++[((els bb)[f].lo.ar,(els (els bb)[f].lo.tu).map λx=>(x,(0 :Int)))]:=by
   rw[ub,Ad];rfl
  have inc:=bt (k:=f) (by omega);have nL:((f:Nat):Int)<((O (els bb):Nat):Int):=by omega
  have ar2:=lB _ eV;refine aG (Q:=nx [2,7,8,10,11,15,16,50,51,53,54,55] (xS bb C q m sst s (.ae (O H.bx+O ts+2) 82 (f+1) 2) (f+1)) H4) ?_ λo e H' hh=>.inl ⟨(f+1,H4,.ae (O H.bx+O ts+2) 82 (f+1) 2),⟨hlt,by dsimp only;omega,jL _ i3,λh=>absurd h (by simp),rfl,vS,w4,by dsimp only;rw[Ql];exact Qk⟩,by dsimp only;omega,hh⟩;generalize (els bb)[f]=b at *;simp only[cB,j4,j2,jo,fF] at FR ca;unfold xS;unfold Rl.p at FR;generalize ((f+1 :Nat):Int)=fJ at *
  conv in bd dH 2=>reduce
  simp[-bX,-ay,-cX,-gI,aO,nL,aS,fw,YB,xP,FR,fM,inc,d1,gX,ca]
 .have hf:f=O (els bb):=by omega
  have nL:¬((f:Nat):Int)<((O (els bb):Nat):Int):=by omega
  refine aG (Q:=λo e H'=>o= .exit 4/\H'=H/\e.get 2= .p (cM bb)/\e.get 7= .box 2 0/\e.get 8= .box 3 0/\e.get 10= .ro C 0/\e.get 11= .box q 0/\e.get 15= .box m 0/\e.get 16=d13/\e.get 50= .p (.int .i64 sst)/\e.get 51= .p (.int .i64 ((s:Nat):Int))) ?_ λo e H' hh=>.inr ?_
  .unfold xS;generalize ((f:Nat):Int)=f1 at *
   conv in bd dH 2=>reduce
   simp[-bX,-ay,nL]
  .obtain⟨rfl,rfl,hg⟩:=hh;refine⟨by simp,rfl,d13,lab,w,?_,i7,i3,by omega,hg⟩;rw[hf,<-cN,lQ] at hd;exact hd
theorem alD:PD.aj.cells=[.aj]:=rfl
theorem ar3:PD.aj.one=true:=rfl
def xT(bb:Sl Bn)(C:List PD)(q m:Nat)(st:Int)(s:Nat):Env:=[(2,.p (cM bb)),(7,.box 2 0),(8,.box 3 0),(10,.ro C 0),(11,.box q 0),(15,.box m 0),(50,.p (.int .i64 st)),(51,.p (.int .i64 ((s:Nat):Int)))]
theorem alE(bb:Sl Bn)(C:List PD)(q m:Nat)(st:Int)(s:Nat):(xT bb C q m st s).keep [2,7,8,10,11,15,50,51]=xT bb C q m st s:=rfl
theorem alF{q:Nat}(hst:1<=sst/\sst<=4)(w0:Sx H0 dz m fx g [])(lB:∀b∈els bb,O (els b.lo.tu)<=1000)(hbl:O (els bb)<=1000)(_:O H0.bx<700000)(gh:H0.bx[m]? =Z [.p .aj]):
    post (λo e H'=>o= .exit 2/\(∃lab,Sx H' lab m fx g (dX sst.toNat (jk (els bb))))/\O H'.bx<=O H0.bx+8000000/\e.get 7= .box 2 0/\e.get 8= .box 3 0/\e.get 10= .ro C 0/\e.get 11= .box q 0/\e.get 15= .box m 0)
     (dB (call pg) pg.G [2,7,8,10,11,15,50,51] (bd dH 1) ⟨xT bb C q m sst 0,H0⟩):=by
 refine dT (c:=call pg) (G:=pg.G) (σ:=Nat×Hp) (λt=>xT bb C q m sst t.1) (λt=>t.2) (λt=>sst.toNat-t.1)
  (λt=>t.1<=sst.toNat/\O t.2.bx<=O H0.bx+2000000*t.1/\∃lab sd,Sx t.2 lab m fx g (dX t.1 (jk (els bb)))/\t.2.bx[m]? =Z [sd]/\(t.1=0->sd= .p .aj)) _ ?_ (0,H0) ⟨bD _,by simp,dz,_,w0,gh,λ_=>rfl⟩
 rintro⟨s,H⟩ ⟨i1,i2,lab,sd,w,i3,i4⟩;dsimp only at i1 i2 w i3 i4|-;rw[alE];by_cases hlt:s<sst.toNat
 .have nL:((s:Nat):Int)<sst:=by omega
  obtain⟨o,e,H1,hx,rfl,d13,sL,w1,cO,d1,iA,jO,g2,g7,g8,g10,g11,g15,g16,g50,g51⟩:=bC (alC (s:=s) (C:=C) (sst:=sst) (q:=q) w lB hbl i3);have w2:=w1.w.snoc [d13] (by simpa[D.ai] using cO.refs) (by simp[D.aC,cO.bk]) [];have gp:jf kC ⟨H1.bx++[[d13]],[]⟩ sL (O (dX s (jk (els bb)))) d13 (jk (els bb)):=cO.oz (λ_ _=>rfl) λi cs _ h=>iB h _;have CD:=w1.tk;have kN:(H1.bx++[[d13]])[m]? =Z [sd]:=iB iA _;obtain⟨lK,H6,a1,a2⟩:=w2.N8 gp (by simp;omega);have Am:lK=sd:=by
   have:=a1.symm.trans kN;simpa using this
  subst Am;obtain⟨a3,a4,a5,a6,a7,eO⟩:=a2 (λh=>i4 (by
   have:=congrArg oI h;simpa using this))
  have tH:O (⟨H1.bx++[[d13]],[]⟩:Hp).bx=O H1.bx+1:=by simp
  rw[tH] at a3 a5 a7 eO;rw[CV] at a3 a7 eO;simp only[fF] at a3 a6 a7 eO;have ja:dX (s+1) (jk (els bb))=dX s (jk (els bb))++[jk (els bb)]:=aac;have CG:ay [d13]=false:=by rcases cO with⟨rfl,_⟩ |⟨k,cs,rfl,_⟩<;>rfl
  have wS:d13.cells=[d13]:=by rcases cO with⟨rfl,_⟩ |⟨k,cs,rfl,_⟩<;>rfl
  have dN:m<O H1.bx:=w1.w.lt w1.w.mn;have eu:=(af.1 w1.b2).1;have dU:=(af.1 w1.b3).1;have inc:=bt (k:=s) (by omega);have FO:kC.st=77:=rfl;rw[FO] at a3 a7 eO;have FT:Sx ⟨H6.bx.set m [.ae (O H1.bx+1) 77 (s+1) 1],H6.tk⟩ (mI sL (O H1.bx+1) .states) m fx g (dX (s+1) (jk (els bb))):=by
   rw[ja];refine⟨a7,eO 2 _ w1.l2 (iB w1.b2 _),?_,eO 3 _ w1.l3 (iB w1.b3 _),?_,a4⟩
   .rw[zy _ _ (by omega)];exact w1.l2
   .rw[zy _ _ (by omega)];exact w1.l3
  refine aG (Q:=nx [2,7,8,10,11,15,50,51] (xT bb C q m sst (s+1)) ⟨H6.bx.set m [.ae (O H1.bx+1) 77 (s+1) 1],[]⟩) ?_ λo e H' hh=>.inl ⟨(s+1,⟨H6.bx.set m [.ae (O H1.bx+1) 77 (s+1) 1],[]⟩),⟨hlt,by dsimp only;rw[Ge];omega,mI sL (O H1.bx+1) .states,.ae (O H1.bx+1) 77 (s+1) 1,?_,?_,λh=>absurd h (by simp)⟩,by dsimp only;omega,hh⟩
  .have hlen:=iL bb;have hsp:aw [lK] 0 [.ae (O H1.bx+1) 77 (s+1) 1]=[.ae (O H1.bx+1) 77 (s+1) 1]:=rfl;have alI:ay [lK]=false:=by
    obtain⟨_,FU,e2,e3⟩:=w1.w.mod;have :lK=FU:=by
     have:=iA.symm.trans e2;simpa using this
    subst this;rcases e3 with⟨rfl,_⟩ |⟨k,ds,rfl,_⟩<;>rfl
   unfold xS at hx;unfold xT

   generalize ((s+1 :Nat):Int)=s1 at *;have hb2:bd dH 2=bd dH 2:=rfl
   conv at hb2=>rhs;reduce
   have hb1:bd dH 1=bd dH 1:=rfl
   conv at hb1=>rhs;reduce
   rw[<-hb2] at hb1;rw[hb1];clear hb1 hb2;simp at hx;simp[-bX,-ay,-aw,nL,hlen,hx,g2,g7,g8,g10,g11,g15,g16,g50,g51,CD,iA,alI,gX,d1,a3,a6,hsp,inc,PH,CG,wS,alD];exact a4
  .rw[a4] at FT;exact FT
  .dsimp only;rw[eA (by omega)]
 .have hs:s=sst.toNat:=by omega
  have nL:¬((s:Nat):Int)<sst:=by omega
  refine aG (Q:=λo e H'=>o= .exit 2/\H'=H/\e.get 7= .box 2 0/\e.get 8= .box 3 0/\e.get 10= .ro C 0/\e.get 11= .box q 0/\e.get 15= .box m 0) ?_ λo e H' hh=>.inr ?_
  .unfold xT;generalize ((s:Nat):Int)=s1 at *;have hb2:bd dH 2=bd dH 2:=rfl
   conv at hb2=>rhs;reduce
   have hb1:bd dH 1=bd dH 1:=rfl
   conv at hb1=>rhs;reduce
   rw[<-hb2] at hb1;rw[hb1];clear hb1 hb2;simp[-bX,-ay,nL]
  .obtain⟨rfl,rfl,hg⟩:=hh;rw[hs] at w;exact⟨by simp,rfl,⟨lab,w⟩,by omega,hg⟩

end Go.Proofs.YtgplgbonlnodeaaGreatDoor

namespace Go.Proofs.YtgplgbonlnodeaaGreatDoor
def KR(x:Option (bR×Hp)):Bool:=match x with
 |some (.val .undef,⟨[],[]⟩)=>true
 |_=>false
theorem YC{x:Option (bR×Hp)}(h:KR x=true):x=Z (.val .undef,⟨[],[]⟩):=by
 unfold KR at h;split at h
 .rfl
 .cases h
theorem alJ:KR (eT pg 30 61 [.p .aj,.fn 62 [] []] ⟨[],[]⟩)=true:=by kernel_rfl
theorem alK:KR (eT pg 30 61 [.cC 102 2 [],.fn 62 [] []] ⟨[],[]⟩)=true:=by kernel_rfl
theorem YD{d:D}(hd:d= .p .aj\/d= .cC 102 2 [])(H:Hp):au (call pg) 61 [d,.fn 62 [] []] H=Z (.val .undef,H):=by
 have hc:call pg 61 [d,.fn 62 [] []] ⟨[],[]⟩=Z (.val .undef,⟨[],[]⟩):=by
  rcases hd with rfl |rfl
  .exact Lq 30 (YC alJ)
  .exact Lq 30 (YC alK)
 have Fo:d.refs=[]/\d.bk=[]/\∀f g,d.ren f g=Z d:=by
  rcases hd with rfl |rfl<;>exact⟨rfl,rfl,λ_ _=>rfl⟩
 unfold au;simp[D.ai,D.refs,Fo.1,ins,p9,D.aC,D.bk,Fo.2,gM,nodupB,D.aZ,D.ren,aH,hc,back,iD,bR.ren,bZ]
theorem YE:∀l:List (Int×Int),BC (cw l)=Z l
 |[]=>rfl
 |x::l=>by simp[cw,BC,YE l]
theorem YF(x:Int×Int):∀l,O (qV x l)=O l+1
 |[]=>rfl
 |y::l=>by
  simp only[qV];split
  .rfl
  .simp[YF x l]
theorem CH:∀l:List (Int×Int),O (eY l)=O l
 |[]=>rfl
 |x::l=>by simp[eY,YF,CH l]
theorem alL(a:List D)(H:Hp):pg.lib 61 a H=Ev a H:=rfl
variable{S A C:jY}{H H0:Hp}{a:Int}{l:List (Int×Int)}{R:List (Int×List (Int×Int))}{fx:List (Nat×List D)}{ds:List D}{i f m s0:Nat}{lab dz:Nat->dK}{β:Type}
theorem alM(hi:H.bx[i]? =Z (cw l))(hne:l≠[])(hl:O l<1000000)(ha:xf (eY l)=true)(hs:BD l=true):
    au (call pg) 61 [.ae i 102 (O l) 2,.fn 62 [] []] H=Z (.val .undef,⟨H.bx.set i (cw (eY l)),H.tk⟩):=by
 have xk:=Qn hne;have aO:=KP l;have hsp:aw (cw l) 0 (cw (eY l))=cw (eY l):=by
  unfold aw;simp[Ak,CH]
 have hc:call pg 61 [.ae 0 102 (O l) 2,.fn 62 [] []] ⟨[cw l],[]⟩=Z (.val .undef,⟨[cw (eY l)],[]⟩):=by
  refine Lp ?_;rw[alL];simp[Ev,aO,YE,KO,Ak,xk,hl,ha,hs,CH,-ay]
 have hr2:∀n,reach H n [i]=[i]
  | 0=>rfl
  |n+1=>by simp[reach,eQ,hi,CE]
 have e1:ins [] (D.ai [.ae i 102 (O l) 2,.fn 62 [] []])=[i]:=by simp[D.ai,D.refs,ins]
 unfold au;simp only[e1,hr2];simp[D.aC,D.bk,gM,hi,CF,ins,nodupB,idx,D.aZ,D.ren,aH,KN,hc,back,iD,bR.ren,bZ]
theorem YG{l:List β}{x:β}(h:l[i]? =Z x):l.set i x=l:=by
 apply lO;intro j;rw[nU];split
 .rename_i e;subst e;rw[if_pos (af.1 h).1,h]
 .rfl
theorem YH{s:Nat}{p:Int×List (Int×Int)}(hR:S[s]? =Z R)(hf:R[f]? =Z p):S.set s (R.set f p)=S:=by
 rw[YG hf,YG hR]
def CI(l:List (Int×Int)):Prop:=O l<1000000/\xf (eY l)=true/\BD l=true
theorem alN(w:Wg kC H lab m [] [] fx S){s:Nat}(hR:S[s]? =Z R)(hf:R[f]? =Z (a,l))(ho:CI l):
    ∃s0 ds k cs d',H.bx[m]? =Z [.ae s0 77 (O S) 1]/\lab s0= .states/\H.bx[s0]? =Z ds/\O ds=O S/\ds[s]? =Z (.ae k 82 (O R) 2)/\lab k= .state s/\H.bx[k]? =Z cs/\O cs=O R*2/\cs[2*f]? =Z (.p (.int .i64 a))/\cs[2*f+1]? =Z d'/\ay [d']=false/\d'.one=true/\(∀z∈d'.refs,lab z≠.none)/\d'.bk=[]/\
     ∀c:List D,(∀z∈D.ai c,lab z≠.none)->D.aC c=[]->∃H2,au (call pg) 61 [d',.fn 62 [] []] ⟨H.bx++[c],H.tk⟩=Z (.val .undef,H2)/\H2.tk=H.tk/\O H2.bx=O H.bx+1/\(∀(j:Nat) es,lab j≠.row s f->H.bx[j]? =Z es->H2.bx[j]? =Z es)/\Wg kC H2 lab m [] [] fx (S.set s (R.set f (a,eY l))):=by
 obtain⟨s0,ds,k,cs,d',q1,q2,q3,q4,q5,q6,q7,q8,q9,Qu,xU,CJ,FV⟩:=w.rowAt hR hf;refine⟨s0,ds,k,cs,d',q1,q2,q3,q4,q5,q6,q7,q8,q9,Qu,Yz xU,xU.one,λz hz=>by rw[CJ z (xU.refs z hz)];simp,xU.bk,λc hc1 hc2=>?_⟩;have w1:=w.snoc c hc1 hc2 H.tk;cases xU with
 |aj=>
  refine⟨_,YD (.inl rfl) _,rfl,by simp,λj es _ h=>iB h _,?_⟩;rw[show eY []=[] from rfl,YH hR hf];exact w1
 |emp=>
  refine⟨_,YD (.inr rfl) _,rfl,by simp,λj es _ h=>iB h _,?_⟩;rw[show eY []=[] from rfl,YH hR hf];exact w1
 |row i _ hi hne=>
  have cW:=(af.1 hi).1;have hi':(⟨H.bx++[c],H.tk⟩:Hp).bx[i]? =Z (cw l):=iB hi _;refine⟨_,alM hi' hne ho.1 ho.2.1 ho.2.2,rfl,by simp,λj es hj h=>?_,?_⟩
  .have :i≠j:=λe=>hj (by rw[<-e];exact CJ i (by simp[cQ]));show((H.bx++[c]).set i _)[j]? =_;rw[bp this];exact iB h _
  .have ot:eY l≠[]:=λh=>hne (by
    have:=CH l;rw[h] at this;exact CR.1 this.symm)
   have w2:=(FV i (eY l) H.tk rfl (CH l) ot).snoc c hc1 hc2 H.tk;rw[List.set_append_left _ _ cW];exact w2
attribute [local irreducible] pw nz nA jt
theorem alO{cs:List D}{j:Nat}{a b:D}(h1:cs[j]? =Z a)(h2:cs[j+1]? =Z b):List.drop j (rE (j+2) cs)=[a,b]:=by
 have hl:=(af.1 h2).1;apply lO;intro i;rw[lN,gL]
 match i with
 | 0=>rw[if_pos (by omega)];simpa using h1
 | 1=>rw[if_pos (by omega)];simpa using h2
 |i+2=>rw[if_neg (by omega)];simp
def jZ(p:Int×List (Int×Int)):Int×List (Int×Int):=(p.1,eY p.2)
theorem YI(A:List β)(x y:β)(C:List β):(A++x::C).set (O A) y=A++y::C:=by simp
theorem YJ(A:List β)(x:β)(C:List β):(A++x::C)[O A]? =Z x:=by simp

variable{g : PD} 
def sM(m k nf s0 ns s i:Nat):Env:=[(7,.box 2 0),(8,.box 3 0),(15,.box m 0),(74,.ae s0 77 ns 1),(75,.p (.int .i64 ((ns:Nat):Int))),(76,.p (.int .i64 ((s:Nat):Int))),(80,.ae k 82 nf 2),(81,.p (.int .i64 ((nf:Nat):Int))),(82,.p (.int .i64 ((i:Nat):Int)))]
theorem alP(m k nf s0 ns s i:Nat):(sM m k nf s0 ns s i).keep [7,8,15,74,75,76,80,81,82]=sM m k nf s0 ns s i:=rfl
theorem alQ(x:Sx H lab m fx g (A++R::C))(hf:R[f]? =Z (a,l))(ho:CI l){k:Nat}(hm:H.bx[m]? =Z [.ae s0 77 (O (A++R::C)) 1])(hs0:H.bx[s0]? =Z ds)(hk:ds[O A]? =Z (.ae k 82 (O R) 2))(po:O R<1000000):
    ∃H3 eG,Sx H3 eG m fx g (A++R.set f (a,eY l)::C)/\H3.bx[m]? =Z [.ae s0 77 (O (A++R::C)) 1]/\H3.bx[s0]? =Z ds/\O H.bx<=O H3.bx/\
     post (nx [7,8,15,74,75,76,80,81,82] (sM m k (O R) s0 (O (A++R::C)) (O A) (f+1)) H3) (aq (call pg) pg.G aM (bd dH 4) ⟨sM m k (O R) s0 (O (A++R::C)) (O A) f,H⟩):=by
 have hR:(A++R::C)[O A]? =Z R:=by simp
 have dZ:=(af.1 hf).1;obtain⟨s0',eL,k',cs,d',q1,q2,q3,q4,q5,q6,q7,q8,q9,Qu,xU,CJ,FV,Qv,q15⟩:=alN x.w hR hf ho;have e1:=hm.symm.trans q1;simp only[bM,xY,D.ae.injEq,and_true] at e1;subst e1;have e2:=hs0.symm.trans q3;cases e2;have e3:=hk.symm.trans q5;simp only[bM,D.ae.injEq,and_true] at e3;subst e3;obtain⟨H2,YK,z1,z2,z3,z4⟩:=q15 [.p (.int .i64 a),d'] (by simpa[D.ai,D.refs] using FV) (by simp[D.aC,D.bk,Qv]);rw[YI] at z4;have aO:=x.tk;have dN:m<O H.bx:=x.w.lt x.w.mn;have vp:∀y∈fx,y.1<O H.bx:=λy hy=>x.w.lt (x.w.an hy);obtain⟨H3,eG,hloc,y2,y3,y4,y5,y6,y7⟩:=z4.loc (nb:=O H.bx) (by omega) vp dN (z1.trans aO) .norm (λ_ _=>rfl);have eu:=(af.1 x.b2).1;have dU:=(af.1 x.b3).1;have bW:=(af.1 hs0).1;have eM:=(af.1 q7).1;have KS:∀(j:Nat) es,lab j≠.row (O A) f->H.bx[j]? =Z es->H3.bx[j]? =Z es:=λj es hj h=>by
  rw[y7 j (af.1 h).1,z3 j es hj h]
 obtain⟨e3,w1,w8⟩:=hloc (sM m k (O R) s0 (O (A++R::C)) (O A) (f+1));refine⟨H3,eG,⟨y2,KS 2 _ (by rw[x.l2];simp) x.b2,by rw[y6 2 eu];exact x.l2,KS 3 _ (by rw[x.l3];simp) x.b3,by rw[y6 3 dU];exact x.l3,y3⟩,KS m _ (by rw[x.w.mod.1];simp) hm,KS s0 _ (by rw[q2];simp) hs0,y4,?_⟩;refine aG (Q:=λo e H'=>o= .norm/\H'=H3/\e=e3) ?_ λo e H' hh=>?_
 .have jR:=alO (j:=2*f) q9 Qu;rw[tV 2 f] at jR;have hcm:ay cs=false:=Vd (by omega);have PK:((f:Nat):Int)<((O R:Nat):Int):=by omega
  have inc:=bt (k:=f) (by omega);have hb:f*2+2<=O R*2:=by omega
  rw[aO] at YK;unfold sM at w1|-;generalize O (A++R::C)=ns at *;generalize ((f+1 :Nat):Int)=fJ at *
  conv in bd dH 4=>reduce
  simp[-bX,-ay,-cX,-gI,aO,PK,Fq,q7,q8,hcm,jR,hb,xP,N6,CJ,YK,fM,inc,w1,Vs.sub]
 .obtain⟨rfl,rfl,rfl⟩:=hh;refine⟨rfl,rfl,?_⟩;rcases w8 with rfl |rfl
  .rfl
  .unfold sM;generalize ((f+1 :Nat):Int)=fJ;simp[Env.keep,Env.get,D.ren,below,eu,dU,dN,bW,eM]
theorem alS{R:List β}{p:β}(h:R[f]? =Z p)(F:β->β):((R.take f).map F++R.drop f).set f (F p)=(R.take (f+1)).map F++R.drop (f+1)/\((R.take f).map F++R.drop f)[f]? =Z p:=by
 obtain⟨hl,he⟩:=af.1 h;have hlen:O ((R.take f).map F)=f:=by simp;omega
 have hd:R.drop f=p::R.drop (f+1):=by rw[<-he];exact CZ hl
 constructor
 .rw[hd];have:=YI ((R.take f).map F) p (F p) (R.drop (f+1));rw[hlen] at this;rw[this,ub,h];simp
 .rw[hd,cR (by omega),hlen];simp
theorem alT(x0:Sx H0 dz m fx g (A++R::C))(ho:∀p∈R,CI p.2){k:Nat}(gh:H0.bx[m]? =Z [.ae s0 77 (O (A++R::C)) 1])(Qw:H0.bx[s0]? =Z ds)(hk:ds[O A]? =Z (.ae k 82 (O R) 2))(qF:k<O H0.bx)(po:O R<1000000):
    post (λo e H'=>o= .exit 8/\(∃lab,Sx H' lab m fx g (A++R.map jZ::C))/\H'.bx[m]? =Z [.ae s0 77 (O (A++R::C)) 1]/\H'.bx[s0]? =Z ds/\O H0.bx<=O H'.bx/\e.get 7= .box 2 0/\e.get 8= .box 3 0/\e.get 15= .box m 0/\e.get 74= .ae s0 77 (O (A++R::C)) 1/\e.get 75= .p (.int .i64 ((O (A++R::C):Nat):Int))/\e.get 76= .p (.int .i64 ((O A:Nat):Int)))
     (dB (call pg) pg.G [7,8,15,74,75,76,80,81,82] (bd dH 4) ⟨sM m k (O R) s0 (O (A++R::C)) (O A) 0,H0⟩):=by
 refine dT (c:=call pg) (G:=pg.G) (σ:=Nat×Hp) (λt=>sM m k (O R) s0 (O (A++R::C)) (O A) t.1) (λt=>t.2) (λt=>O R-t.1)
  (λt=>t.1<=O R/\k<O t.2.bx/\(∃lab,Sx t.2 lab m fx g (A++((R.take t.1).map jZ++R.drop t.1)::C))/\t.2.bx[m]? =Z [.ae s0 77 (O (A++R::C)) 1]/\t.2.bx[s0]? =Z ds/\O H0.bx<=O t.2.bx) _ ?_ (0,H0) ⟨bD _,qF,⟨dz,by simpa using x0⟩,gh,Qw,aK _⟩
 rintro⟨f,H⟩ ⟨i1,i0,⟨lab,x⟩,hm,hs0,hle⟩;dsimp only at i1 i0 x hm hs0 hle|-;rw[alP];have Qx:O ((R.take f).map jZ++R.drop f)=O R:=by simp;omega
 have jd:O (A++((R.take f).map jZ++R.drop f)::C)=O (A++R::C):=by simp
 by_cases hlt:f<O R
 .have hp:=aD hlt;obtain⟨t1,t2⟩:=alS hp jZ;obtain⟨H3,eG,x3,u1,u2,u4,u3⟩:=alQ (f:=f) (a:=R[f].1) (l:=R[f].2) (s0:=s0) (k:=k) (ds:=ds) x t2 (ho _ (dw hlt)) (by rw[jd];exact hm) hs0 (by rw[Qx];exact hk) (by rw[Qx];exact po);rw[jd] at u1 u3;rw[Qx] at u3;have t1':((R.take f).map jZ++R.drop f).set f (R[f].1,eY R[f].2)=(R.take (f+1)).map jZ++R.drop (f+1):=t1;rw[t1'] at x3;have hk3:k<O H3.bx:=by
   obtain⟨_,sd,w2,w3⟩:=x3.w.mod;rw[u1] at w2;simp only[fF,bM,xY,and_true] at w2;rcases w3 with⟨e,_⟩ |⟨s1,YL,e,v1,v2,v3,v4⟩
   .rw[e] at w2;cases w2
   .rw[e] at w2;simp only[D.ae.injEq,and_true] at w2;obtain⟨rfl,_⟩:=w2;rw[u2] at v2;cases v2;obtain⟨d,g1,g2⟩:=v4 (O A) _ (YJ A _ C);rw[hk] at g1;cases g1;rcases g2 with⟨e,_⟩ |⟨k1,cs,e,g3,_⟩
    .cases e
    .have :k=k1:=(D.ae.inj e).1;subst this;exact x3.w.lt (by rw[g3];simp)
  exact aG u3 λo e H' hh=>.inl ⟨(f+1,H3),⟨by dsimp only;omega,hk3,⟨eG,x3⟩,u1,u2,fW hle u4⟩,by dsimp only;omega,hh⟩
 .have hf:f=O R:=by omega
  subst hf;rw[lQ,C0,iQ] at x;have pF:=λe=>Aj x.w.ok x.w.tk x.tk (n:=O H.bx) rfl (.exit 8) (λ_ _=>rfl) e;have eu:=(af.1 x.b2).1;have dU:=(af.1 x.b3).1;have dN:=(af.1 hm).1;have bW:=(af.1 hs0).1;have aO:=x.tk;refine aG (Q:=λo e H'=>o= .exit 8/\H'=H/\e.get 7= .box 2 0/\e.get 8= .box 3 0/\e.get 15= .box m 0/\e.get 74= .ae s0 77 (O (A++R::C)) 1/\e.get 75= .p (.int .i64 ((O (A++R::C):Nat):Int))/\e.get 76= .p (.int .i64 ((O A:Nat):Int))) ?_ λo e H' hh=>.inr ⟨by rw[hh.1];simp,hh.1,⟨lab,by rw[hh.2.1];exact x⟩,by rw[hh.2.1];exact hm,by rw[hh.2.1];exact hs0,by rw[hh.2.1];exact hle,hh.2.2⟩;unfold sM;generalize O (A++R::C)=ns at *
  conv in bd dH 4=>reduce
  simp[-bX,-ay,aO,pF,eu,dU,dN,bW]
def rA(m s0 ns s:Nat):Env:=[(7,.box 2 0),(8,.box 3 0),(15,.box m 0),(74,.ae s0 77 ns 1),(75,.p (.int .i64 ((ns:Nat):Int))),(76,.p (.int .i64 ((s:Nat):Int)))]
theorem alV(m s0 ns s:Nat):(rA m s0 ns s).keep [7,8,15,74,75,76]=rA m s0 ns s:=rfl
theorem alW{ns s:Nat}(bV:H.Ok)(ht:∀(i:Nat) cs,H.bx[i]? =Z cs->D.aC cs=[])(aO:H.tk=[])(eu:2<O H.bx)(dU:3<O H.bx)(dN:m<O H.bx)(bW:s0<O H.bx):
    post (λo e H'=>o= .exit 8/\H'=H/\e.get 7= .box 2 0/\e.get 8= .box 3 0/\e.get 15= .box m 0/\e.get 74= .ae s0 77 ns 1/\e.get 75= .p (.int .i64 ((ns:Nat):Int))/\e.get 76= .p (.int .i64 ((s:Nat):Int)))
     (dB (call pg) pg.G [7,8,15,74,75,76,80,81,82] (bd dH 4) ⟨[(7,.box 2 0),(8,.box 3 0),(15,.box m 0),(74,.ae s0 77 ns 1),(75,.p (.int .i64 ((ns:Nat):Int))),(76,.p (.int .i64 ((s:Nat):Int))),(80,.p .aj),(81,.p (.int .i64 0)),(82,.p (.int .i64 0))],H⟩):=by
 refine dT (c:=call pg) (G:=pg.G) (σ:=Unit) (λ_=>[(7,.box 2 0),(8,.box 3 0),(15,.box m 0),(74,.ae s0 77 ns 1),(75,.p (.int .i64 ((ns:Nat):Int))),(76,.p (.int .i64 ((s:Nat):Int))),(80,.p .aj),(81,.p (.int .i64 0)),(82,.p (.int .i64 0))]) (λ_=>H) (λ_=>0) (λ_=>True) _ ?_ () trivial;intro _ _;have pF:=λe=>Aj bV ht aO (n:=O H.bx) rfl (.exit 8) (λ_ _=>rfl) e;refine aG (Q:=λo e H'=>o= .exit 8/\H'=H/\e.get 7= .box 2 0/\e.get 8= .box 3 0/\e.get 15= .box m 0/\e.get 74= .ae s0 77 ns 1/\e.get 75= .p (.int .i64 ((ns:Nat):Int))/\e.get 76= .p (.int .i64 ((s:Nat):Int))) ?_ λo e H' hh=>.inr ⟨by rw[hh.1];simp,hh⟩
 conv in bd dH 4=>reduce
 simp[-bX,-ay,aO,pF,eu,dU,dN,bW]
theorem alX(x0:Sx H0 dz m fx g S)(ho:∀R∈S,O R<1000000/\∀p∈R,CI p.2)(gh:H0.bx[m]? =Z [.ae s0 77 (O S) 1])(Qw:H0.bx[s0]? =Z ds)(Ve:O S<1000000):
    post (λo e H'=>o= .exit 6/\(∃lab,Sx H' lab m fx g (S.map λR=>R.map jZ))/\e.get 7= .box 2 0/\e.get 8= .box 3 0/\e.get 15= .box m 0)
     (dB (call pg) pg.G [7,8,15,74,75,76] (bd dH 3) ⟨rA m s0 (O S) 0,H0⟩):=by
 refine dT (c:=call pg) (G:=pg.G) (σ:=Nat×Hp) (λt=>rA m s0 (O S) t.1) (λt=>t.2) (λt=>O S-t.1)
  (λt=>t.1<=O S/\(∃lab,Sx t.2 lab m fx g ((S.take t.1).map (λR=>R.map jZ)++S.drop t.1))/\t.2.bx[m]? =Z [.ae s0 77 (O S) 1]/\t.2.bx[s0]? =Z ds) _ ?_ (0,H0) ⟨bD _,⟨dz,by simpa using x0⟩,gh,Qw⟩
 rintro⟨s,H⟩ ⟨i1,⟨lab,x⟩,hm,hs0⟩;dsimp only at i1 x hm hs0|-;rw[alV];have aO:=x.tk;have eu:=(af.1 x.b2).1;have dU:=(af.1 x.b3).1;have dN:=(af.1 hm).1;have bW:=(af.1 hs0).1;have Qy:O ((S.take s).map (λR=>R.map jZ)++S.drop s)=O S:=by simp;omega
 by_cases hlt:s<O S
 .have hp:=aD hlt;have hlen:O ((S.take s).map λR=>R.map jZ)=s:=by simp;omega
  have hd:S.drop s=S[s]::S.drop (s+1):=CZ hlt;rw[hd] at x Qy;have YM:=ho _ (dw hlt);have qJ:(S.take (s+1)).map (λR=>R.map jZ)++S.drop (s+1)=(S.take s).map (λR=>R.map jZ)++(S[s]).map jZ::S.drop (s+1):=by
   rw[ub,hp,oJ,j2];rfl
  generalize S[s]=R at *;generalize hA:(S.take s).map (λR=>R.map jZ)=A at *;generalize hC:S.drop (s+1)=C at *;have Ck:((s:Nat):Int)<((O S:Nat):Int):=by omega
  have inc:=bt (k:=s) (by omega);obtain⟨_,sd,w2,w3⟩:=x.w.mod;rw[hm] at w2;simp only[fF,bM,xY,and_true] at w2;rcases w3 with⟨e,_⟩ |⟨s1,YL,e,v1,v2,v3,v4⟩
  .rw[e] at w2;cases w2
  rw[e] at w2;have:=(D.ae.inj w2).1;subst this;rw[hs0] at v2;cases v2;obtain⟨d,g1,g2⟩:=v4 (O A) _ (YJ A R C);have CG:ay ds=false:=xB g1 (by rcases g2 with⟨rfl,_⟩ |⟨k,cs,rfl,_⟩<;>rfl);have fin:∀{H1:Hp} {sL:Nat->dK} {e:Env},Sx H1 sL m fx g (A++R.map jZ::C)->H1.bx[m]? =Z [.ae s0 77 (O S) 1]->H1.bx[s0]? =Z ds->O H.bx<=O H1.bx->
      ∃H3 eG,Sx H3 eG m fx g (A++R.map jZ::C)/\H3.bx[m]? =Z [.ae s0 77 (O S) 1]/\H3.bx[s0]? =Z ds/\H1.tk=[]/\∃e3,bX (O H.bx) 0 (.norm,⟨rA m s0 (O S) (s+1),H1⟩)=(.norm,⟨e3,H3⟩)/\e3.keep [7,8,15,74,75,76]=rA m s0 (O S) (s+1):=by
   intro H1 sL e x1 u1 u2 u3;obtain⟨H3,eG,hloc,y2,y3,y4,y5,y6,y7⟩:=x1.w.loc (nb:=O H.bx) u3 (λy hy=>x.w.lt (x.w.an hy)) dN x1.tk .norm (λ_ _=>rfl);obtain⟨e3,w1,w8⟩:=hloc (rA m s0 (O S) (s+1));refine⟨H3,eG,⟨y2,by rw[y7 2 eu];exact x1.b2,by rw[y6 2 eu];exact x1.l2,by rw[y7 3 dU];exact x1.b3,by rw[y6 3 dU];exact x1.l3,y3⟩,by rw[y7 m dN];exact u1,by rw[y7 s0 bW];exact u2,x1.tk,e3,w1,?_⟩;rcases w8 with rfl |rfl
   .rfl
   .unfold rA;generalize ((s+1 :Nat):Int)=fJ;simp[Env.keep,Env.get,D.ren,below,eu,dU,dN,bW]
  rw[hlen] at g1;rcases g2 with⟨rfl,rfl⟩ |⟨k,cs,rfl,gk,gc,gl,gg⟩
  .obtain⟨o,e,H1,hx,rfl,rfl,g7,g8,g15,Qz,QA,QB⟩:=bC (alW (s:=s) (ns:=O S) x.w.ok x.w.tk aO eu dU dN bW);obtain⟨H3,eG,x3,u1,u2,u3,e3,u4,u5⟩:=fin (e:=e) x hm hs0 (aK _);refine aG (Q:=λo e H'=>o= .norm/\H'=H3/\e=e3) ?_ λo e H' hh=>.inl ⟨(s+1,H3),⟨by dsimp only;omega,⟨eG,by dsimp only;rw[hC,qJ];exact x3⟩,u1,u2⟩,by dsimp only;omega,hh.1,hh.2.1,by rw[hh.2.2];exact u5⟩;unfold rA at u4|-;generalize ((s+1 :Nat):Int)=fJ at *;have hb4:bd dH 4=bd dH 4:=rfl
   conv at hb4=>rhs;reduce
   have hb3:bd dH 3=bd dH 3:=rfl
   conv at hb3=>rhs;reduce
   rw[<-hb4] at hb3;rw[hb3];clear hb3 hb4;simp[-bX,-ay,aO,Ck,Fq,hs0,CG,g1,hx,g7,g8,g15,Qz,QA,QB,inc,u4]
  .have eM:k<O H.bx:=(af.1 gc).1;have lp:=alT (s0:=s0) (k:=k) (ds:=ds) x YM.2 (by rw[Qy];exact hm) hs0 (by rw[hlen];exact g1) eM YM.1;rw[Qy,hlen] at lp;obtain⟨o,e,H1,hx,rfl,⟨sL,x1⟩,iA,hs1,alY,g7,g8,g15,Qz,QA,QB⟩:=bC lp;obtain⟨H3,eG,x3,u1,u2,u3,e3,u4,u5⟩:=fin (e:=e) x1 iA hs1 alY;refine aG (Q:=λo e H'=>o= .norm/\H'=H3/\e=e3) ?_ λo e H' hh=>.inl ⟨(s+1,H3),⟨by dsimp only;omega,⟨eG,by dsimp only;rw[hC,qJ];exact x3⟩,u1,u2⟩,by dsimp only;omega,hh.1,hh.2.1,by rw[hh.2.2];exact u5⟩;unfold rA at u4|-;unfold sM at hx;generalize ((s+1 :Nat):Int)=fJ at *;have Qo:kC.rt=82:=rfl;rw[Qo] at g1;have hl2:∀a b c d:Nat,dF 1 (.ae a b c d)=Z c:=λ_ _ _ _=>rfl;have hb4:bd dH 4=bd dH 4:=rfl
   conv at hb4=>rhs;reduce
   have hb3:bd dH 3=bd dH 3:=rfl
   conv at hb3=>rhs;reduce
   rw[<-hb4] at hb3;rw[hb3];clear hb3 hb4;simp at hx;simp[-bX,-ay,aO,Ck,Fq,hs0,CG,g1,hl2,hx,g7,g8,g15,Qz,QA,QB,inc,u4]
 .have hs:s=O S:=by omega
  subst hs;rw[lQ,C0,iQ] at x;have pF:=λe=>Aj x.w.ok x.w.tk x.tk (n:=O H.bx) rfl (.exit 6) (λ_ _=>rfl) e;refine aG (Q:=λo e H'=>o= .exit 6/\H'=H/\e.get 7= .box 2 0/\e.get 8= .box 3 0/\e.get 15= .box m 0) ?_ λo e H' hh=>.inr ⟨by rw[hh.1];simp,hh.1,⟨lab,by rw[hh.2.1];exact x⟩,hh.2.2⟩;unfold rA;generalize O S=ns at *;have hb4:bd dH 4=bd dH 4:=rfl
  conv at hb4=>rhs;reduce
  have hb3:bd dH 3=bd dH 3:=rfl
  conv at hb3=>rhs;reduce
  rw[<-hb4] at hb3;rw[hb3];clear hb3 hb4;simp[-bX,-ay,aO,pF,eu,dU,dN,bW]

end Go.Proofs.YtgplgbonlnodeaaGreatDoor

namespace Go.Proofs.YtgplgbonlnodeaaGreatDoor
def oH(s:Sl Mx):PD:=eh 2 (s.map Mx.p)
def mS(s:Sl (Sl Mx)):PD:=eh 1 (s.map oH)
theorem alZ(s:Sl Mx):dF 1 (.p (oH s))=Z (O (els s)):=nh 2 _ s
theorem al0(s:Sl (Sl Mx)):dF 1 (.p (mS s))=Z (O (els s)):=nh 1 _ s
theorem QC(a:Sl Mx):(oH a).cells=[oH a]:=by
 unfold oH;cases a with
 |nil=>rfl
 |cJ=>rfl
 |of l=>cases l<;>rfl
@[simp] theorem ar4(a:Sl (Sl Mx)):(mS a).one=true:=nj 1 _
@[simp] theorem ar5(a:Sl Mx):(oH a).one=true:=nj 2 _
theorem al1(l:List (Int×Int)):∀x∈l.map Qc,nI 2 x:=λx hx=>by
 obtain⟨y,_,rfl⟩:=cA.1 hx;exact .inr ⟨by decide,_,rfl,rfl⟩
theorem QD:∀l:List (Int×Int),cw l=((l.map Qc).flatMap PD.cells).map .p
 |[]=>rfl
 |x::l=>by
  simp only[cw,cB,sP,oJ];rw[QD l];rfl
variable{S:jY}{sd:D}{H:Hp}{l0:List Gt}{lab:Nat->dK}
theorem al2{d:D}{l:List (Int×Int)}(r:fR kC H d l):∃s:Sl (Int×Int),els s=l/\s≠.cJ/\∀n,d.av 0 H (n+2)= .p (rp s):=by
 cases r with
 |aj=>exact⟨.nil,rfl,by simp,λn=>Cw H _⟩
 |emp=>exact⟨.of [],rfl,by simp,λn=>rfl⟩
 |row i _ hb hne=>
  have hb:H.bx[i]? =Z (cw l):=hb;have hch:=vG (al1 l);rw[bT] at hch;refine⟨.of l,rfl,by simp,λn=>?_⟩;have h1:(cw l).map (D.av 0 H (n+1))=cw l:=by
   rw[QD,pO];exact pN λp _=>kj 0 H (n+1) p
  have hs:Vs.sub (cw l) 0 (0+O l*2)=cw l:=by
   unfold Vs.sub;rw[pM,ez,KP]
  show(D.ae i 102 (O l) 2).av 0 H (n+2)=_;unfold D.av;dsimp only;rw[if_pos (bD _),hb];dsimp only;rw[if_pos ⟨KO _,by rw[Ak];omega,by decide⟩,hs,h1,QD,tP];dsimp only;rw[hch];cases l with
  |nil=>exact absurd rfl hne
  |cons x r=>rfl
def KT(xs:List Mx):List PD:=(xs.map Mx.p).flatMap PD.cells
theorem al3(x:Mx)(xs:List Mx):KT (x::xs)= .int .i64 x.ar::rp x.cs::KT xs:=rfl
theorem YN{H:Hp}:∀(R:List (Int×List (Int×Int))) (cs:List D),O cs=O R*2->
    (∀(f:Nat) (a:Int) (l:List (Int×Int)),R[f]? =Z (a,l)->cs[2*f]? =Z (.p (.int .i64 a))/\∃d',cs[2*f+1]? =Z d'/\fR kC H d' l)->
    ∃xs:List Mx,xs.map (λr=>(r.ar,els r.cs))=R/\(∀r∈xs,r.cs≠.cJ)/\∀n,cs.map (D.av 0 H (n+2))=(KT xs).map .p
 |[],cs,h,_=>by
  have :cs=[]:=sO (by simpa using h);subst this;exact⟨[],rfl,by simp,λn=>rfl⟩
 |(a,l)::R,cs,h,hc=>by
  obtain⟨c0,c1,cs,rfl⟩:∃c0 c1 cs',cs=c0::c1::cs':=by
   match cs,h with
   |[],h=>simp at h
   |[x],h=>simp at h;omega
   |x::y::r,_=>exact⟨x,y,r,rfl⟩
  obtain⟨e1,d',e2,e3⟩:=hc 0 a l rfl;simp at e1 e2;subst e1 e2;obtain⟨xs,h1,h2,h3⟩:=YN (H:=H) R cs (by simp at h;omega) λf a l hf=>by
   obtain⟨g1,d2,g2,g3⟩:=hc (f+1) a l (by simpa using hf);refine⟨?_,d2,?_,g3⟩
   .rw[show 2*(f+1)=2*f+1+1 by omega] at g1;simpa using g1
   .rw[show 2*(f+1)+1=2*f+1+1+1 by omega] at g2;simpa using g2
  obtain⟨s,s1,s2,s3⟩:=al2 e3;refine⟨⟨a,s⟩::xs,by simp[s1,h1],?_,λn=>?_⟩
  .intro r hr;rcases cq.1 hr with rfl |hr
   .exact s2
   .exact h2 r hr
  .rw[cB,cB,s3,h3,al3,cB,cB];exact congrArg (· ::_) (kj 0 H _ _)
theorem al4(xs:List Mx):∀x∈xs.map Mx.p,nI 2 x:=λx hx=>by
 obtain⟨y,_,rfl⟩:=cA.1 hx;exact .inr ⟨by simp,_,rfl,rfl⟩
theorem al5{s:Nat}{d:D}{R:List (Int×List (Int×Int))}(r:jf kC H lab s d R):∃x:Sl Mx,(els x).map (λr=>(r.ar,els r.cs))=R/\(∀r∈els x,r.cs≠.cJ)/\∀n,d.av 0 H (n+3)= .p (oH x):=by
 rcases r with⟨rfl,rfl⟩ |⟨k,cs,rfl,h2,h3,h4,h5⟩
 .exact⟨.nil,rfl,by simp[els],λn=>Cw H _⟩
 .obtain⟨xs,x1,x2,x3⟩:=YN (H:=H) R cs h4 λf a l hf=>by
   obtain⟨e1,d',e2,e3,_⟩:=h5 f a l hf;exact⟨e1,d',e2,e3⟩
  have hlen:O xs=O R:=by rw[<-x1,bT]
  refine⟨Cv xs,by rw[xK];exact x1,by rw[xK];exact x2,λn=>?_⟩;have hmap:ay cs=false:=by
   match cs,h4 with
   |[],_=>rfl
   |[x],h4=>simp at h4;omega
   |x::y::r,_=>exact fw x y r
  have hs:Vs.sub cs 0 (0+O R*2)=cs:=by
   unfold Vs.sub;rw[pM,fK (by omega)]
  have hch:=vG (al4 xs);rw[bT,hlen] at hch;unfold D.av;dsimp only;rw[if_pos (bD _),h3];dsimp only;rw[if_pos ⟨hmap,by omega,by omega⟩,hs,x3 n,tP];dsimp only;unfold KT;rw[hch,KD];rfl
theorem al6(xs:List (Sl Mx)):∀x∈xs.map oH,nI 1 x:=λx hx=>by
 obtain⟨y,_,rfl⟩:=cA.1 hx;exact .inl ⟨rfl,QC y⟩
def vU(x:Sl Mx):List (Int×List (Int×Int)):=(els x).map λr=>(r.ar,els r.cs)
theorem YO{H:Hp}{lab:Nat->dK}:∀(S:jY) (ds:List D) (k:Nat),O ds=O S->(∀(s:Nat) R,S[s]? =Z R->∃d,ds[s]? =Z d/\jf kC H lab (k+s) d R)->
    ∃xs:List (Sl Mx),xs.map vU=S/\(∀x∈xs,∀r∈els x,r.cs≠.cJ)/\∀n,ds.map (D.av 0 H (n+3))=(xs.map oH).map .p
 |[],ds,_,h,_=>by
  have :ds=[]:=sO (by simpa using h);subst this;exact⟨[],rfl,by simp,λn=>rfl⟩
 |R::S,[],_,h,_=>by simp at h
 |R::S,d::ds,k,h,hc=>by
  obtain⟨d0,e1,e2⟩:=hc 0 R rfl;simp at e1;subst e1;obtain⟨xs,h1,h2,h3⟩:=YO (H:=H) (lab:=lab) S ds (k+1) (by simpa using h) λs R hR=>by
   obtain⟨d2,g1,g2⟩:=hc (s+1) R (by simpa using hR);exact⟨d2,by simpa using g1,by rw[show k+1+s=k+(s+1) by omega];exact g2⟩
  obtain⟨x,x1,x2,x3⟩:=al5 e2;refine⟨x::xs,by rw[cB,h1];exact congrArg (· ::S) x1,?_,λn=>?_⟩
  .intro y hy;rcases cq.1 hy with rfl |hy
   .exact x2
   .exact h2 y hy
  .rw[cB,x3,h3];rfl
theorem al7(r:NY kC H lab sd S):∃x:Sl (Sl Mx),(els x).map vU=S/\(∀y∈els x,∀r∈els y,r.cs≠.cJ)/\∀n,sd.av 0 H (n+4)= .p (mS x):=by
 rcases r with⟨rfl,rfl⟩ |⟨k,ds,rfl,h2,h3,h4,h5⟩
 .exact⟨.nil,rfl,by simp[els],λn=>Cw H _⟩
 .obtain⟨xs,x1,x2,x3⟩:=YO (H:=H) (lab:=lab) S ds 0 h4 λs R hR=>by simpa using h5 s R hR
  have hlen:O xs=O S:=by rw[<-x1,bT]
  refine⟨Cv xs,by rw[xK];exact x1,by rw[xK];exact x2,λn=>?_⟩;have hmap:ay ds=false:=by
   cases ds with
   |nil=>rfl
   |cons d0 ds=>
    have hl:0<O S:=by simp at h4;omega
    obtain⟨d,e1,e2⟩:=h5 0 S[0] (aD hl);refine xB e1 ?_;rcases e2 with⟨rfl,_⟩ |⟨k,cs,rfl,_⟩<;>rfl
  have hs:Vs.sub ds 0 (0+O S*1)=ds:=by
   unfold Vs.sub;rw[pM,fK (by omega)]
  have hch:=vG (al6 xs);have dZ:(xs.map oH).flatMap PD.cells=xs.map oH:=by
   clear x1 x2 x3 hlen hch
   induction xs with
   |nil=>rfl
   |cons x r ih=>rw[cB,sP,QC,ih];rfl
  rw[dZ,bT,hlen] at hch;unfold D.av;dsimp only;rw[if_pos (bD _),h3];dsimp only;rw[if_pos ⟨hmap,by omega,Nat.one_pos⟩,hs,x3 n,tP];dsimp only;rw[hch,KD];rfl
attribute [local irreducible] pw nz nA jt
theorem al8{l:List Gt}{k n:Nat}{rs:List Int}(c:Al l0 l 2 5 k n rs H):∃lab,Sx ⟨H.bx++[[.p .aj]],[]⟩ lab (O H.bx) (jH 5 k rs) (bq (.of l)) []:=by
 obtain⟨hp,hq,hk,kp,kq,h3,k3,tk,len,rl,rv,r0,ext,ll,pG,rf⟩:=c;have eu:=(af.1 hp).1;have h5l:=(af.1 hq).1;have dU:=(af.1 h3).1;have eM:=(af.1 hk).1;refine⟨λj=>if j=O H.bx then .model else if j=5 then .lH 0 else if j=k then .lH 1 else .none,⟨⟨by simp,.p .aj,by simp,.inl ⟨rfl,rfl⟩⟩,λx hx=>?_,λx hx=>?_,λi cs hi x hx=>?_,λi cs hi=>?_,λj hj=>?_⟩,iB hp _,?_,iB h3 _,?_,rfl⟩
 .simp only[jH,cq,iC,or_false] at hx;rcases hx with rfl |rfl
  .exact iB hq _
  .exact iB hk _
 .simp only[jH,cq,iC,or_false] at hx;rcases hx with rfl |rfl
  .exact⟨0,by dsimp only;rw[if_neg (by omega),if_pos rfl]⟩
  .exact⟨1,by dsimp only;rw[if_neg (by omega),if_neg kq,if_pos rfl]⟩
 .rcases ox hi with⟨_,h⟩ |⟨_,rfl⟩
  .by_cases h5:i=5
   .subst h5;rw[hq] at h;cases h;have :x=k:=by simpa[D.ai,D.refs] using hx
    subst this;rw[if_neg (by omega),if_neg kq,if_pos rfl];simp
   .rw[(rf i cs h).1 h5] at hx;cases hx
  .simp[D.ai,D.refs] at hx
 .rcases ox hi with⟨_,h⟩ |⟨_,rfl⟩
  .exact(rf i cs h).2
  .rfl
 .simp at hj;rw[if_neg (by omega),if_neg (by omega),if_neg (by omega)]
 .rw[if_neg (by omega),if_neg (by omega),if_neg (by omega)]
 .rw[if_neg (by omega),if_neg (by omega),if_neg (by omega)]
theorem al9(g:Nat->Nat)(b2 rk:Nat)(rs:List Int):wX g (jH b2 rk rs)=jH (g b2) (g rk) rs:=by
 have :D.aU g (bz rs)=bz rs:=NZ g _;simp[wX,jH,D.aU,D.mv,this]
def pH(rs:List Int)(fi:List Fi)(bb:List Bn)(st:Int):jY:=(cz fi bb st).foldl (stepG (kW rs) (fi.map Fi.va) st) (dX st.toNat (jk bb))
def QE(fi:List Fi)(bb:List Bn)(st:Int)(rs:List Int):Prop:=
 (∀(j:Nat) e,(cz fi bb st)[j]? =Z e->Qg (kW rs) (Qp rs) (fi.map Fi.va) st (((cz fi bb st).take j).foldl (stepG (kW rs) (fi.map Fi.va) st) (dX st.toNat (jk bb))) e)/\
 O (pH rs fi bb st)=st.toNat/\∀R∈pH rs fi bb st,O R<1000000/\∀p∈R,CI p.2
theorem ama(r:NY kC H lab sd S)(x:PD):∃s:Sl (Sl Mx),(els s).map vU=S/\(∀y∈els s,∀r∈els y,r.cs≠.cJ)/\fin true (.ba [.p x,sd]) H (.ba [.p x,.p (mS s)]):=by
 obtain⟨s,s1,s2,s3⟩:=al7 r;refine⟨s,s1,s2,.ba [.p x,.p (mS s)],?_,by simp[D.ren]⟩;have h3:(D.ba [.p x,sd]).av 0 H 8= .ba [.p x,.p (mS s)]:=by
  unfold D.av;simp only[cB,j4,s3 3,kj]
 rw[if_pos rfl,h3];simp[D.ren]
theorem amc(a b c d:PD):cX [.p a,.p b,.p c,.p d]= .p (.agg [a,b,c,d]):=rfl

variable {so f3 f4 : PD} {fi : Sl Fi} {a : Sl Int} {bb : Sl Bn} {st : Int}
structure xV (l0:List Gt) (fi:List Fi) (bb:List Bn) (st:Int) (l:List Gt) (rs:List Int) (r:Sl (Sl Mx)):Prop where
 ext:∃t,l=l0++t/\∀g∈t,g.k=1
 ll:O l<=O l0+mj fi bb st
 pG:vN l
 rl:O rs=mj fi bb st+1
 rv:∀v:Nat,1<=v->v<=mj fi bb st->∃j:Nat,rs[v]? =Z (2*(j:Int))/\l[j]? =Z ⟨1,v,0⟩
 mx:(els r).map vU=(pH rs fi bb st).map λR=>R.map jZ
 na:∀y∈els r,∀r∈els y,r.cs≠.cJ
theorem amd(o1:so.one=true)(o3:f3.one=true)(o4:f4.one=true)(hst:1<=st/\st<=4)
    (hbl:O (els bb)=O (els fi)) (hl:O (els bb)<=1000) (hu:∀b∈els bb,O (els b.up.tu)<=900/\O (els b.lo.tu)<=900) (hs:∀b∈els bb,dn (els b.lo.tu))
     (hc:vN l0) (hl0:O l0<=1000) (hn:mj (els fi) (els bb) st<=10000)
    (bV:∀rs:List Int,O rs=mj (els fi) (els bb) st+1->(∀v:Nat,1<=v->v<=mj (els fi) (els bb) st->∃j:Nat,rs[v]? =Z (2*(j:Int)))->QE (els fi) (els bb) st rs):
    ∃x:List Gt×List Int×Sl (Sl Mx),(∀H,au (call pg) 16 [.p (.agg [so,fT fi,f3,f4]),.p (.agg [ax a,.int .i64 st]),.p (cM bb),.p (.agg [bq (.of l0)])] H=Z (.val (.ba [.p (.agg [bq (.of x.1)]),.p (mS x.2.2)]),H))/\xV l0 (els fi) (els bb) st x.1 x.2.1 x.2.2:=by
 have KU:=X7 (fi:=fi) (a:=a) (st:=st) o1 o3 o4 hl hu hs;have c56:=aj0 (f3:=f3) (f4:=f4) (a:=a) o1 hst.2 hbl hl λb hb=>(hu b hb).1;have hC1:(dL so f3 f4 fi a st bb (fU (bu 0 (els bb))))[1]? =Z (.int .i64 st):=rfl;have hCl:O (dL so f3 f4 fi a st bb (fU (bu 0 (els bb))))=8:=rfl;have QF:∀{b2 rk m:Nat} {rs:List Int} {H:Hp} {dz:Nat->dK},QE (els fi) (els bb) st rs->Wg kC H dz m [] [] (jH b2 rk rs) (dX st.toNat (jk (els bb)))->H.tk=[]->O H.bx<100000000->
     ∃Hs di,call pg 59 [.ro (dL so f3 f4 fi a st bb (fU (bu 0 (els bb)))) 0,.fn 60 [] [.box m 0,.box b2 0]] H=Z (.val .undef,Hs)/\Wg kC Hs di m [] [] (jH b2 rk rs) (pH rs (els fi) (els bb) st)/\O H.bx<=O Hs.bx/\O Hs.bx<=O H.bx+100000000/\∀j,j<O H.bx->di j=dz j:=by
  intro b2 rk m rs H dz hk w h1 h2;exact alp hst hbl hl (λb hb=>(hu b hb).1) hk.1 w h1 h2
 generalize dL so f3 f4 fi a st bb (fU (bu 0 (els bb)))=C at *;have c0:Al l0 l0 2 5 4 0 [0] ⟨[[.p so,.p (fT fi),.p f3,.p f4],[.p (ax a),.p (.int .i64 st)],[.p (bq (.of l0))],[.p .aj],[.p (.int .i64 0)],[.ae 4 3 1 1]],[]⟩:=by
  refine⟨rfl,rfl,rfl,by decide,by decide,rfl,by decide,rfl,by simp,rfl,λv h1 h2=>by omega,rfl,⟨[],by simp,by simp⟩,by simp,hc,λj cs hj=>?_⟩;have hm:=bB hj;simp only[cq,iC,or_false] at hm;rcases hm with rfl |rfl |rfl |rfl |rfl |rfl
  .exact⟨λ_=>by simp[D.ai,D.refs],by simp[D.aC,D.bk]⟩
  .exact⟨λ_=>by simp[D.ai,D.refs],by simp[D.aC,D.bk]⟩
  .exact⟨λ_=>by simp[D.ai,D.refs],by simp[D.aC,D.bk]⟩
  .exact⟨λ_=>by simp[D.ai,D.refs],by simp[D.aC,D.bk]⟩
  .exact⟨λ_=>by simp[D.ai,D.refs],by simp[D.aC,D.bk]⟩
  .refine⟨λh=>absurd ?_ h,by simp[D.aC,D.bk]⟩
   match j,hj with
   | 0,hj=>simp at hj
   | 1,hj=>simp at hj
   | 2,hj=>simp at hj
   | 3,hj=>simp at hj
   | 4,hj=>simp at hj
   | 5,_=>rfl
   |j+6,hj=>simp at hj
 obtain⟨oa,ea,Ha,QG,rfl,a2,a7,eO,Og,qc,l,k,rs,ca⟩:=bC (alz (bb:=bb) (C:=C) c0 (by decide) (by decide) (by decide) hn hl0);obtain⟨ar8,xa⟩:=al8 ca;have Jh:=ca.len;have hta:=ca.tk;obtain⟨ob,eb,Hb,QH,rfl,⟨asa,xb⟩,uI,b7,b8,b10,b11,b15⟩:=bC (alF (C:=C) (q:=5) hst xa (λb hb=>by have:=(hu b hb).2;omega) hl (by simp;omega) (by simp));have eF:=bV rs ca.rl λv h1 h2=>by obtain⟨j,h3,_⟩:=ca.rv v h1 h2;exact⟨j,h3⟩
 have hk2:=eF.2.1;have hk3:=eF.2.2;have an5:=xb.w.an (x:=(5,[.ae k 3 (O rs) 1])) (by simp[jH]);have at5:=xb.w.at_ (5,[.ae k 3 (O rs) 1]) (by simp[jH]);obtain⟨Hc,aml,Ao,xc,tc,q1,q2,q3,q4⟩:=xb.w.call (f:=59) (args:=[.ro C 0,.fn 60 [] [.box (O Ha.bx) 0,.box 5 0]]) (K:=100000000) (S':=pH rs (els fi) (els bb) st) rfl (by
  intro x hx;have :x=O Ha.bx\/x=5:=by simpa[D.ai,D.refs] using hx
  rcases this with rfl |rfl
  .exact xb.w.mn
  .exact an5) (by simp[D.ai,D.refs]) (by
  intro ids oX hi x hx;have h5:5∈ids:=hi 5 (by simp[D.ai,D.refs]);simp only[jH,cq,iC,or_false] at hx;rcases hx with rfl |rfl
  .exact h5
  .exact oX 5 h5 _ at5 k (by simp[D.ai,D.refs])) (λg H' bh w' _ hlen QJ=>by
   rw[al9] at w'|-;obtain⟨Hs,di,p1,p2,p3,p4,p5⟩:=QF eF w' QJ (by simp at uI;omega);exact⟨Hs,di,p1,p2,p3,p4,p5⟩)
 have YP:=(af.1 xb.b2).1;have YQ:=(af.1 xb.b3).1;have YR:Sx Hc aml (O Ha.bx) (jH 5 k rs) (bq (.of l)) (pH rs (els fi) (els bb) st):=
  ⟨xc,(q4 2 YP xb.l2).trans xb.b2,(q3 2 YP).trans xb.l2,(q4 3 YQ xb.l3).trans xb.b3,(q3 3 YQ).trans xb.l3,tc.trans xb.tk⟩
 obtain⟨-,sd,m2,m3⟩:=xc.mod;rcases m3 with⟨-,hS⟩ |⟨s0,ds,rfl,n1,n2,n3,n4⟩
 .rw[hS] at hk2;simp at hk2;omega
 obtain⟨od,ed,Hd,QK,rfl,⟨amm,xd⟩,d7,d8,d15⟩:=bC (alX YR hk3 m2 n2 (by omega));obtain⟨hmd,FU,u2,u3⟩:=xd.w.mod;have amn:=(af.1 xd.b3).1;have xe:Wg kC ⟨Hd.bx.set 3 [.p (bq (.of l))],[]⟩ amm (O Ha.bx) [] [] (jH 5 k rs) ((pH rs (els fi) (els bb) st).map λR=>R.map jZ):=by
  refine xd.w.mono (λ_ _=>rfl) (λi cs hi _ h=>?_) (λi cs hi x hx=>?_) (λi cs hi=>?_) λj hj=>xd.w.fr j (by simpa using hj)
  .dsimp only;rw[bp (λe=>hi (by rw[<-e];exact xd.l3)),h]
  .rcases oy hi with⟨_,rfl⟩ |⟨_,h⟩
   .simp[D.ai,D.refs] at hx
   .exact xd.w.rf i cs h x hx
  .rcases oy hi with⟨_,rfl⟩ |⟨_,h⟩
   .simp[D.aC,D.bk]
   .exact xd.w.tk i cs h
 obtain⟨UO,FW,v2,v3⟩:=xe.mod;have KV:(3 :Nat)≠O Ha.bx:=by
  have:=(af.1 ca.hq).1;omega
 have Am:FW=FU:=by
  dsimp only at v2;rw[bp KV,u2] at v2;simpa using v2.symm
 subst Am;obtain⟨s,s1,s2,s3⟩:=ama v3 (.agg [bq (.of l)]);have hx1:FW.one=true:=by rcases v3 with⟨rfl,_⟩ |⟨_,_,rfl,_⟩<;>rfl
 refine⟨(l,rs,s),?_,⟨ca.ext,ca.ll,ca.pG,ca.rl,λv h1 h2=>ca.rv v h1 h2,s1,s2⟩⟩;have asc:=ca.hp;have amo:=ca.tk;have htb:=xb.tk;have htc:=YR.tk;have uy:=xd.tk;have gp:=xd.b2;have tA:=xd.b3;have rZ:(Hd.bx.set 3 [.p (bq (.of l))])[3]? =Z [.p (bq (.of l))]:=eA amn;generalize mj (els fi) (els bb) st=n at *;generalize pH rs (els fi) (els bb) st=M at *;have FO:kC.st=77:=rfl;have amp:∀n:Nat,¬(3+2*n=2):=λn=>by omega
 rw[FO] at m2;have amq:ay [FW]=false:=by rcases v3 with⟨rfl,_⟩ |⟨_,_,rfl,_⟩<;>rfl
 have hl2:∀a b c d:Nat,dF 1 (.ae a b c d)=Z c:=λ_ _ _ _=>rfl;unfold sK at QG;unfold xT at QH;unfold rA at QK;dsimp only;have hb4:bd dH 4=bd dH 4:=rfl
 conv at hb4=>rhs;reduce
 have hb3:bd dH 3=bd dH 3:=rfl
 conv at hb3=>rhs;reduce
 rw[<-hb4] at hb3;have hb2:bd dH 2=bd dH 2:=rfl
 conv at hb2=>rhs;reduce
 have hb1:bd dH 1=bd dH 1:=rfl
 conv at hb1=>rhs;reduce
 rw[<-hb2] at hb1;have hb0:bd dH 0=bd dH 0:=rfl
 conv at hb0=>rhs;reduce
 have hf:dH=dH:=rfl
 conv at hf=>rhs;reduce
 rw[<-hb4] at hf;rw[<-hb3] at hf;rw[<-hb2] at hf;rw[<-hb1] at hf;rw[<-hb0] at hf;refine aR (aa:=[_,_,_,_]) (e16.trans hf) rfl rfl rfl ?_;refine aG (Q:=λo e H=>o= .ret/\e.get 8= .box 3 0/\e.get 9=FW/\H=⟨Hd.bx.set 3 [.p (bq (.of l))],[]⟩) ?_ λo e H hh=>?_
 .clear hf hb0 hb1 hb2 hb3 hb4;simp at QG QH QK Ao;simp[-bX,-ay,-cX,-gI,YB,amc,o1,o3,o4,KU,c56,fM,hC1,fw,CB,QG,a2,a7,eO,Og,qc,amo,QH,b7,b8,b10,b11,b15,Ao,m2,QK,d7,d8,d15,uy,gp,tA,u2,vO,amq,hl2,xP,amp,Ne.symm KV]
 .obtain⟨rfl,h8,h9,rfl⟩:=hh;refine⟨.inl rfl,.ba [.p (.agg [bq (.of l)]),FW],?_,s3⟩;simp[mD,rJ,aH,h8,h9,pU,rZ,CB,Vs.sub,cX,gI,-ay]

end Go.Proofs.YtgplgbonlnodeaaGreatDoor

namespace Go.Proofs.YtgplgbonlnodeaaGreatDoor
attribute [local irreducible] pw nz nA jt
theorem pnc:PD.aj.cells=[.aj]:=rfl
theorem pno:PD.aj.one=true:=rfl
variable{at_:D}{H:Hp}{lp st:Int}{al:List Int}{m:Nat}{so fp f3 f4:PD}{bb:Sl Bn}{bs:Sl Bool}{a:Sl Int}
theorem ams{H0:Hp}{dz:Nat->ep}{sst:Int}{C:List PD}(hst:1<=sst/\sst<=4)(w0:Dc H0 dz m at_ al bs a sst lp [])(lB:∀b∈els bb,b.lo.tu≠.cJ/\O (els b.lo.tu)<=100000)(hbl:O (els bb)<=1000)(nG:O H0.bx<700000000)(gh:H0.bx[m]? =Z [at_,.p (.int .i64 sst),.p .aj,.p (.int .i64 lp)])(_:at_.one=true):
    post (λo e H'=>o= .exit 2/\(∃lab,Dc H' lab m at_ al bs a sst lp (dX sst.toNat (ji (els bb))))/\O H'.bx<=O H0.bx+20000/\e.get 8= .box 3 0/\e.get 9= .ro C 0/\e.get 10= .box 4 0/\e.get 11= .box m 0)
     (dB (call pg) pg.G [2,8,9,10,11,43,44] (bd a24 1) ⟨[(2,.p (cM bb)),(8,.box 3 0),(9,.ro C 0),(10,.box 4 0),(11,.box m 0),(43,.p (.int .i64 sst)),(44,.p (.int .i64 0))],H0⟩):=by
 refine dT (c:=call pg) (G:=pg.G) (σ:=Nat×Hp) (λt=>[(2,.p (cM bb)),(8,.box 3 0),(9,.ro C 0),(10,.box 4 0),(11,.box m 0),(43,.p (.int .i64 sst)),(44,.p (.int .i64 ((t.1:Nat):Int)))]) (λt=>t.2) (λt=>sst.toNat-t.1)
  (λt=>t.1<=sst.toNat/\O t.2.bx<=O H0.bx+5000*t.1/\∃lab sd,Dc t.2 lab m at_ al bs a sst lp (dX t.1 (ji (els bb)))/\t.2.bx[m]? =Z [at_,.p (.int .i64 sst),sd,.p (.int .i64 lp)]/\(t.1=0->sd= .p .aj)) _ ?_ (0,H0) ⟨bD _,by simp,dz,_,w0,gh,λ_=>rfl⟩
 rintro⟨s,H⟩ ⟨i1,i2,lab,sd,w,i3,i4⟩;dsimp only at i1 i2 w i3 i4|-;by_cases hlt:s<sst.toNat
 .have nL:((s:Nat):Int)<sst:=by omega
  obtain⟨o,e,H1,hx,rfl,d13,sL,w1,cO,dt,dc,d1,iA,jO,g2,g8,g9,g10,g11,g13,g43,g44⟩:=bC (ak5 (s:=s) (C:=C) w lB hbl (by omega) i3);have w2:=w1.w.snoc [d13] (by simpa[D.ai] using cO.refs) (by simp[D.aC,dt]) [];have gp:iN ⟨H1.bx++[[d13]],[]⟩ sL (O (dX s (ji (els bb)))) d13 (ji (els bb)):=cO.oz (λ_ _=>rfl) λi cs _ h=>nJ h _;have CD:=w1.tk;have kN:(H1.bx++[[d13]])[m]? =Z [at_,.p (.int .i64 sst),sd,.p (.int .i64 lp)]:=nJ iA _;obtain⟨lK,H6,a1,a2⟩:=w2.N8 gp (by simp;omega) dt;have Am:lK=sd:=by
   have:=a1.symm.trans kN;simpa using this
  subst Am;obtain⟨a3,a4,a5,a6,a7,a8⟩:=a2 (λh=>i4 (by
   have:=congrArg oI h;simpa using this))
  have tH:O (⟨H1.bx++[[d13]],[]⟩:Hp).bx=O H1.bx+1:=by simp
  rw[tH] at a3 a5 a7 a8;rw[CV] at a3 a7 a8;have ja:dX (s+1) (ji (els bb))=dX s (ji (els bb))++[ji (els bb)]:=aac;have CG:ay [d13]=false:=by rcases cO with⟨rfl,_⟩ |⟨k,cs,rfl,_⟩<;>rfl
  have dN:m<O H1.bx:=w1.w.lt (by rw[w1.w.mod.1];simp);have ri:=(af.1 w1.b1).1;have dU:=(af.1 w1.b3).1;have inc:=bt (k:=s) (by omega);have FT:Dc ⟨H6.bx.set m [at_,.p (.int .i64 sst),.ae (O H1.bx+1) 78 (s+1) 1,.p (.int .i64 lp)],H6.tk⟩ (ml sL (O H1.bx+1) .states) m at_ al bs a sst lp (dX (s+1) (ji (els bb))):=by
   rw[ja];refine⟨a7,a8 1 _ w1.l1 (nJ w1.b1 _),?_,a8 3 _ w1.l3 (nJ w1.b3 _),?_,a4⟩
   .rw[xI _ _ (by omega)];exact w1.l1
   .rw[xI _ _ (by omega)];exact w1.l3
  refine aG (Q:=nx [2,8,9,10,11,43,44] [(2,.p (cM bb)),(8,.box 3 0),(9,.ro C 0),(10,.box 4 0),(11,.box m 0),(43,.p (.int .i64 sst)),(44,.p (.int .i64 ((s+1 :Nat):Int)))] ⟨H6.bx.set m [at_,.p (.int .i64 sst),.ae (O H1.bx+1) 78 (s+1) 1,.p (.int .i64 lp)],[]⟩) ?_ λo e H' hh=>.inl ⟨(s+1,⟨H6.bx.set m [at_,.p (.int .i64 sst),.ae (O H1.bx+1) 78 (s+1) 1,.p (.int .i64 lp)],[]⟩),⟨hlt,by dsimp only;rw[Ge];omega,ml sL (O H1.bx+1) .states,.ae (O H1.bx+1) 78 (s+1) 1,?_,?_,λh=>absurd h (by simp)⟩,by dsimp only;omega,hh⟩
  .have hlen:=iL bb;have hsp:aw [at_,.p (.int .i64 sst),lK,.p (.int .i64 lp)] 2 [.ae (O H1.bx+1) 78 (s+1) 1]=[at_,.p (.int .i64 sst),.ae (O H1.bx+1) 78 (s+1) 1,.p (.int .i64 lp)]:=rfl;generalize ((s+1 :Nat):Int)=s1 at *;have hb2:=rf (bd a24 2)
   conv at hb2=>rhs;reduce
   have hb1:=rf (bd a24 1)
   conv at hb1=>rhs;reduce
   rw[<-hb2] at hb1;rw[hb1];clear hb1 hb2;simp[-bX,-ay,-aw,nL,hlen,hx,g2,g8,g9,g10,g11,g13,g43,g44,CD,fw,iA,gX,dc,d1,a3,a6,hsp,inc,pnc,PH,CG];exact a4
  .rw[a4] at FT;exact FT
  .dsimp only;rw[eA (by omega)]
 .have hs:s=sst.toNat:=by omega
  have nL:¬((s:Nat):Int)<sst:=by omega
  refine aG (Q:=λo e H'=>o= .exit 2/\H'=H/\e.get 8= .box 3 0/\e.get 9= .ro C 0/\e.get 10= .box 4 0/\e.get 11= .box m 0) ?_ λo e H' hh=>.inr ?_
  .generalize ((s:Nat):Int)=s1 at *;have hb2:=rf (bd a24 2)
   conv at hb2=>rhs;reduce
   have hb1:=rf (bd a24 1)
   conv at hb1=>rhs;reduce
   rw[<-hb2] at hb1;rw[hb1];clear hb1 hb2;simp[-bX,-ay,nL]
  .obtain⟨rfl,rfl,hg⟩:=hh;rw[hs] at w;exact⟨by simp,rfl,⟨lab,w⟩,by omega,hg⟩
theorem YS:∀ps:List PD,gI (ps.map .p)=Z ps
 |[]=>rfl
 |p::ps=>by simp[gI,YS ps]
theorem amv(cs:List D)(H:Hp)(n:Nat):(cX cs).av 0 H (n+1)=(D.agg cs).av 0 H (n+1):=by
 cases h:gI cs with
 |none=>unfold cX;rw[h]
 |some ps=>
  have e:=Qh h;have h1:(D.agg cs).av 0 H (n+1)=cX (cs.map (D.av 0 H n)):=by
   conv=>lhs;unfold D.av
  have h2:cs.map (D.av 0 H n)=ps.map .p:=by
   rw[e,pO];exact pN λp _=>kj 0 H n p
  rw[h1,h2];unfold cX;rw[h,YS];exact kj 0 H (n+1) _
theorem Wk.amw{lab:Nat->ep}{c v:Nat}{S:fV}(w:Wk H lab c v m at_ al bs st lp S){j:Nat}(hj:lab j= .none)(cs:List D)(hr:∀x∈D.ai cs,lab x≠.none)(ht:D.aC cs=[])(tk:List Nat):
    Wk ⟨H.bx.set j cs,tk⟩ lab c v m at_ al bs st lp S:=by
 refine w.mono (λ_ _=>rfl) (λi es hi _ h=>?_) (λi es hi x hx=>?_) (λi es hi=>?_) λi hi=>w.fr i (by simpa using hi)
 .rw[bp (λe=>hi (by rw[<-e];exact hj)),h]
 .rcases Ac hi with⟨_,rfl⟩ |⟨_,h⟩
  .exact hr x hx
  .exact w.rf i es h x hx
 .rcases Ac hi with⟨_,rfl⟩ |⟨_,h⟩
  .exact ht
  .exact w.tk i es h
def pI(fi:List Fi)(bb:List Bn)(st:Int)(bs:List Bool):fV:=
 (cz fi bb st).foldl (kV bs (fi.map Fi.va) st) (dX st.toNat (ji bb))
def YT(fi:List Fi)(bb:List Bn)(st:Int)(bs:List Bool):Prop:=
 ∀(j:Nat) e,(cz fi bb st)[j]? =Z e->Yd bs (fi.map Fi.va) st (((cz fi bb st).take j).foldl (kV bs (fi.map Fi.va) st) (dX st.toNat (ji bb))) e
theorem amx{d:D}(hr:fE ⟨[],[]⟩ d (els a))(hd:cK d=[])(gp:d.refs=[])(kP:d.bk=[]):
    ∃lab,Dc ⟨[[.p so,.p fp,.p f3,.p f4],[.p (ax a),.p (.int .i64 st)],[.p (dr bs)],[.p .aj,.p (.int .i64 0),.p .aj,.p (.int .i64 0)],[.fn 73 [] [.box 2 0]],[d,.p (.int .i64 st),.p .aj,.p (.int .i64 0)]],[]⟩ lab 5 d (els a) bs a st 0 []:=by
 obtain⟨lab,l4,l2,l5,lo⟩:∃lab:Nat->ep,lab 4= .lH 0/\lab 2= .lH 1/\lab 5= .model/\∀j,j≠4->j≠2->j≠5->lab j= .none:=
  ⟨λj=>if j=4 then .lH 0 else if j=2 then .lH 1 else if j=5 then .model else .none,rfl,rfl,rfl,λj h1 h2 h3=>by simp[h1,h2,h3]⟩
 refine⟨lab,⟨⟨l5,.p .aj,rfl,.inl ⟨rfl,rfl⟩⟩,hr.other (by rw[hd];simp),by rw[hd];simp,rfl,l4,rfl,l2,?_,?_,λj hj=>lo j ?_ ?_ ?_⟩,rfl,lo 1 (by simp) (by simp) (by simp),rfl,lo 3 (by simp) (by simp) (by simp),rfl⟩
 .intro i cs hi x hx;have hm:=bB hi;simp only[cq,iC,or_false] at hm;rcases hm with rfl |rfl |rfl |rfl |rfl |rfl
  .simp[D.ai,D.refs] at hx
  .simp[D.ai,D.refs] at hx
  .simp[D.ai,D.refs] at hx
  .simp[D.ai,D.refs] at hx
  .have :x=2:=by simpa[D.ai,D.refs] using hx
   rw[this,l2];simp
  .simp[D.ai,D.refs,gp] at hx
 .intro i cs hi;have hm:=bB hi;simp only[cq,iC,or_false] at hm;rcases hm with rfl |rfl |rfl |rfl |rfl |rfl<;>simp[D.aC,D.bk,kP]
 all_goals simp at hj;omega
theorem amy(ha:els a≠[]):
    ∃lab,Dc ⟨[[.p so,.p fp,.p f3,.p f4],[.p (ax a),.p (.int .i64 st)],[.p (dr bs)],[.p .aj,.p (.int .i64 0),.p .aj,.p (.int .i64 0)],[.fn 73 [] [.box 2 0]],bz (els a),[.ae 5 3 (O (els a)) 1,.p (.int .i64 st),.p .aj,.p (.int .i64 0)]],[]⟩ lab 6 (.ae 5 3 (O (els a)) 1) (els a) bs a st 0 []:=by
 obtain⟨lab,l4,l2,l6,l5,lo⟩:∃lab:Nat->ep,lab 4= .lH 0/\lab 2= .lH 1/\lab 6= .model/\lab 5= .lH 2/\∀j,j≠4->j≠2->j≠6->j≠5->lab j= .none:=
  ⟨λj=>if j=4 then .lH 0 else if j=2 then .lH 1 else if j=6 then .model else if j=5 then .lH 2 else .none,rfl,rfl,rfl,rfl,λj h1 h2 h3 h4=>by simp[h1,h2,h3,h4]⟩
 refine⟨lab,⟨⟨l6,.p .aj,rfl,.inl ⟨rfl,rfl⟩⟩,.row 5 _ rfl ha,λi hi=>?_,rfl,l4,rfl,l2,?_,?_,λj hj=>lo j ?_ ?_ ?_ ?_⟩,rfl,lo 1 (by simp) (by simp) (by simp) (by simp),rfl,lo 3 (by simp) (by simp) (by simp) (by simp),rfl⟩
 .have :i=5:=by simpa[cK] using hi
  rw[this];exact l5
 .intro i cs hi x hx;have hm:=bB hi;simp only[cq,iC,or_false] at hm;rcases hm with rfl |rfl |rfl |rfl |rfl |rfl |rfl
  .simp[D.ai,D.refs] at hx
  .simp[D.ai,D.refs] at hx
  .simp[D.ai,D.refs] at hx
  .simp[D.ai,D.refs] at hx
  .have :x=2:=by simpa[D.ai,D.refs] using hx
   rw[this,l2];simp
  .rw[Cb] at hx;cases hx
  .have :x=5:=by simpa[D.ai,D.refs] using hx
   rw[this,l5];simp
 .intro i cs hi;have hm:=bB hi;simp only[cq,iC,or_false] at hm;rcases hm with rfl |rfl |rfl |rfl |rfl |rfl |rfl
  all_goals first |exact Cc _ |simp[D.aC,D.bk]
 all_goals simp at hj;omega
theorem YU(a b c d:PD):cX [.p a,.p b,.p c,.p d]= .p (.agg [a,b,c,d]):=rfl
theorem YV(a b:PD):cX [.p a,.p b]= .p (.agg [a,b]):=rfl
theorem YW:PD.nV.one=true:=rfl
theorem YX(x:PD):ay [.p x]=false:=rfl
theorem fE.ne{d:D}{l:List Int}(r:fE H d l){i e n sz:Nat}(h:d= .ae i e n sz):l≠[]:=by
 cases r with
 |aj=>cases h
 |emp=>cases h
 |row i l hb hne=>exact hne

variable{fi : Sl Fi}    
theorem amz(o1:so.one=true)(o3:f3.one=true)(o4:f4.one=true)(hst:1<=st/\st<=4)(ha:a≠.cJ)(nB:O (els a)<=100000)
    (hbl:O (els bb)=O (els fi)) (hl:O (els bb)<=1000) (hu:∀b∈els bb,O (els b.up.tu)<=900/\O (els b.lo.tu)<=900) (hs:∀b∈els bb,dn (els b.lo.tu)) (Ap:∀b∈els bb,b.lo.tu≠.cJ)
    (eU:O (els bs)<4611686018427387904) (bV:YT (els fi) (els bb) st (els bs)):
    ∃r:Sl Int×Sl (Sl Rl),(∀H,au (call pg) 24 [.p (.agg [so,fT fi,f3,f4]),.p (.agg [ax a,.int .i64 st]),.p (cM bb),.p (dr bs)] H=Z (.val (.p (.agg [ax r.1,.int .i64 st,qd r.2,.int .i64 (lL (els bs) st (bF st))])),H))/\
     (els r.1=els a/\(els r.2).map stM=pI (els fi) (els bb) st (els bs)/\r.1≠.cJ/\∀y∈els r.2,∀r∈els y,r.tu≠.cJ):=by
 have KU:=X7 (fi:=fi) (a:=a) (st:=st) o1 o3 o4 hl hu hs;have YY:=X9 (f3:=f3) (f4:=f4) (fi:=fi) (a:=a) (st:=st) (bs:=bb) o1 (fU (bu 0 (els bb)));have Ji:bF st<=4:=by unfold bF;split<;>omega
 have QF:=λ{c v m at_ al lp H dz}=>@aj3 at_ H st lp st al (dX st.toNat (ji (els bb))) v m dz so f3 f4 bb bs fi a c eU hst hbl hl (λb hb=>(hu b hb).1) bV;generalize dL so f3 f4 fi a st bb (fU (bu 0 (els bb)))=C at *;obtain⟨d',H2,xQ,hr,kP,FN,wS,th⟩:=Ym a ha nB ⟨[[.p so,.p (fT fi),.p f3,.p f4],[.p (ax a),.p (.int .i64 st)],[.p (dr bs)],[.p .aj,.p (.int .i64 0),.p .aj,.p (.int .i64 0)],[.fn 73 [] [.box 2 0]]],[]⟩;obtain⟨YZ,w7,tJ,hl2,hg1⟩:∃YZ,Dc ⟨H2.bx++[[d',.p (.int .i64 st),.p .aj,.p (.int .i64 0)]],[]⟩ YZ (O H2.bx) d' (els a) bs a st 0 []/\H2.tk=[]/\(O H2.bx=5\/O H2.bx=6)/\H2.bx[1]? =Z [.p (ax a),.p (.int .i64 st)]:=by
  rcases th with⟨rfl,h1,h2⟩ |⟨rfl,rfl⟩
  .obtain⟨lab,w⟩:=amx (bs:=bs) (st:=st) (so:=so) (fp:=fT fi) (f3:=f3) (f4:=f4) (hr.other (H':=⟨[],[]⟩) (by rw[h1];simp)) h1 h2 kP;exact⟨lab,w,rfl,.inl rfl,rfl⟩
  .have hne:els a≠[]:=hr.ne rfl;obtain⟨lab,w⟩:=amy (bs:=bs) (st:=st) (so:=so) (fp:=fT fi) (f3:=f3) (f4:=f4) hne;exact⟨lab,w,rfl,.inr rfl,rfl⟩
 have amA:1<O H2.bx:=(af.1 hg1).1;have Y0:H2.bx[1]=[.p (ax a),.p (.int .i64 st)]:=by have:=hg1;rw[aD amA] at this;exact nQ this
 have Jt:(⟨H2.bx++[[d',.p (.int .i64 st),.p .aj,.p (.int .i64 0)]],[]⟩:Hp).bx[O H2.bx]? =Z [d',.p (.int .i64 st),.p .aj,.p (.int .i64 0)]:=by simp
 obtain⟨o8,e8,H8,KW,rfl,w8,Y1,hm8,g2,g5,g8,g9,g10,g11⟩:=bC (ak1 (bb:=bb) (C:=C) eU hst w7 Ji Jt);have amC:O H8.bx<700000000:=by rw[Y1];simp;omega
 obtain⟨o9,e9,H9,KX,rfl,⟨amD,w9⟩,Y2,k8,k9,Y3,KY⟩:=bC (ams (C:=C) hst w8 (λb hb=>⟨Ap b hb,by have:=hu b hb;omega⟩) hl amC hm8 FN);have hm9:amD (O H2.bx)= .model:=w9.w.mod.1;obtain⟨FX,Y4,Ao,CK,t10,q1,q2,q3,q4⟩:=w9.w.call (f:=59) (args:=[.ro C 0,.fn 76 [] [.box 4 0,.box (O H2.bx) 0]]) (K:=100000000) (S':=pI (els fi) (els bb) st (els bs)) rfl (by
  intro x hx;have :x=4\/x=O H2.bx:=by simpa[D.ai,D.refs] using hx
  rcases this with rfl |rfl
  .rw[w9.w.cl];simp
  .rw[hm9];simp) (by simp[D.ai,D.refs]) (by simp[D.ai,D.refs]) (λg H' bh at' w' _ hlen QJ=>by
   obtain⟨Hs,di,p1,p2,p3,p4,p5⟩:=QF w' QJ (by rw[Y1] at Y2;simp at Y2;omega);exact⟨Hs,di,p1,p2,p3,p4,p5⟩)
 have ri:=(af.1 w9.b1).1;have dU:=(af.1 w9.b3).1;have qj:=(af.1 w9.w.cc).1;have QL:=(q4 3 dU w9.l3).trans w9.b3;have amF:Y4 3= .none:=(q3 3 dU).trans w9.l3;have Y5:FX.tk=[]:=t10.trans w9.tk;have asi:=CK.mod.1;obtain⟨sd,ma,ss,e1,e2,e3,e4,e5,-⟩:=CK.ending;have Ma:∀x∈D.ai [d',.p (.int .i64 st),sd,.p (.int .i64 (lL (els bs) st (bF st)))],Y4 x≠.none:=CK.rf _ _ e1;have w11:=CK.amw amF [d',.p (.int .i64 st),sd,.p (.int .i64 (lL (els bs) st (bF st)))] Ma (CK.tk _ _ e1) [];obtain⟨lK,ma',ss',e1',Ed,e3',e4',e5',fu⟩:=w11.ending;have KV:(3 :Nat)≠O H2.bx:=by omega
 have Am:lK=sd:=by
  have h:=e1';dsimp only at h;rw[bp KV,e1] at h;simpa using h.symm
 subst Am;have Y6:lK.one=true:=by
  obtain⟨_,FU,m2,hs⟩:=CK.mod;have :FU=lK:=by
   rw[e1] at m2;simpa using m2.symm
  subst this;rcases hs with⟨rfl,_⟩ |⟨k,ds,rfl,_⟩<;>rfl
 have Y7:=w8.b1;have ht8:=w8.tk;have ht9:=w9.tk;have asm:∀x y z u:D,aw [.p .aj,.p (.int .i64 0),.p .aj,.p (.int .i64 0)] 0 [x,y,z,u]=[x,y,z,u]:=λ_ _ _ _=>rfl;have hout:∃r:Sl Int×Sl (Sl Rl),(els r.1=els a/\(els r.2).map stM=pI (els fi) (els bb) st (els bs)/\r.1≠.cJ/\∀y∈els r.2,∀r∈els y,r.tu≠.cJ)/\fin true (cX [d',.p (.int .i64 st),lK,.p (.int .i64 (lL (els bs) st (bF st)))]) ⟨FX.bx.set 3 [d',.p (.int .i64 st),lK,.p (.int .i64 (lL (els bs) st (bF st)))],[]⟩ (.p (.agg [ax r.1,.int .i64 st,qd r.2,.int .i64 (lL (els bs) st (bF st))])):=by
  refine⟨(ma',ss'),⟨Ed,e3',e4',e5'⟩,?_⟩;unfold fin at fu|-;rw[amv];exact fu
 generalize bF st=v0 at *;generalize lL (els bs) st v0=lp at *;generalize pI (els fi) (els bb) st (els bs)=M at *;have amN:3<O FX.bx:=(af.1 QL).1;have asn:O H2.bx<O FX.bx:=(af.1 e1).1;have hb2:=rf (bd a24 2)
 conv at hb2=>rhs;reduce
 have hb1:=rf (bd a24 1)
 conv at hb1=>rhs;reduce
 rw[<-hb2] at hb1;have hb0:=rf (bd a24 0)
 conv at hb0=>rhs;reduce
 have hf:=rf a24
 conv at hf=>rhs;reduce
 rw[<-hb2] at hf;rw[<-hb1] at hf;rw[<-hb0] at hf;refine xn (y:=λr:Sl Int×Sl (Sl Rl)=>.p (.agg [ax r.1,.int .i64 st,qd r.2,.int .i64 lp])) (R:=λr=>els r.1=els a/\(els r.2).map stM=M/\r.1≠.cJ/\∀y∈els r.2,∀r∈els y,r.tu≠.cJ) (f:=24) (aa:=[_,_,_,_]) hf rfl rfl rfl ?_;refine aG (Q:=λo e H=>o= .ret/\e.get 8= .box 3 0/\H=⟨FX.bx.set 3 [d',.p (.int .i64 st),lK,.p (.int .i64 lp)],[]⟩) ?_ λo e H hh=>?_
 .clear hf hb0 hb1 hb2;rcases hl2 with hl2 |hl2
  .simp only[hl2] at KW KX Ao e1 g11 KY;simp[-bX,-ay,-cX,-gI,YU,YV,YX,Y0,YW,Kz,o1,o3,o4,KU,YY,xQ,tJ,hl2,fw,xP,wS,FN,KW,KX,g2,g5,g8,g9,g10,g11,k8,k9,Y3,KY,Y7,Ao,e1,QL,Y5,Y6]
  .simp only[hl2] at KW KX Ao e1 g11 KY;simp[-bX,-ay,-cX,-gI,YU,YV,YX,Y0,YW,Kz,o1,o3,o4,KU,YY,xQ,tJ,hl2,fw,xP,wS,FN,KW,KX,g2,g5,g8,g9,g10,g11,k8,k9,Y3,KY,Y7,Ao,e1,QL,Y5,Y6]
 .obtain⟨rfl,h8,rfl⟩:=hh;obtain⟨r,h1,h2⟩:=hout;refine⟨r,h1,.inl rfl,cX [d',.p (.int .i64 st),lK,.p (.int .i64 lp)],?_,h2⟩;simp[mD,rJ,h8,pU,amN,cutAt,fw,Vs.sub,-ay]

end Go.Proofs.YtgplgbonlnodeaaGreatDoor

namespace Go.Proofs.YtgplgbonlnodeaaGreatDoor
theorem KZ(t x:Int):∀l:List Int,x∈gu t l↔x=t\/x∈l
 |[]=>by simp[gu]
 |y::r=>by
  simp only[gu];split
  .simp only[cq,KZ t x r];constructor
   .rintro (h |h |h)
    .exact .inr (.inl h)
    .exact .inl h
    .exact .inr (.inr h)
   .rintro (h |h |h)
    .exact .inr (.inl h)
    .exact .inl h
    .exact .inr (.inr h)
  .simp only[cq]
theorem Y8{t:Int}:∀{l:List Int},dn l->t∉l->dn (gu t l)
 |[],_,_=>by simp[gu]
 |y::r,h,hn=>by
  obtain⟨h1,h2⟩:=pP.1 h;simp only[cq,not_or] at hn;simp only[gu];split
  .rename_i hlt;refine pP.2 ⟨λz hz=>?_,Y8 h2 hn.2⟩;rcases(KZ t z r).1 hz with rfl |hz
   .exact hlt
   .exact h1 z hz
  .refine pP.2 ⟨λz hz=>?_,h⟩;rcases cq.1 hz with rfl |hz
   .omega
   .have:=h1 z hz;omega
theorem Y9(t:Int):∀l:List Int,O (gu t l)=O l+1
 |[]=>rfl
 |y::r=>by
  simp only[gu];split
  .simp[Y9 t r]
  .rfl
def nM(rs:List Int)(l:List Int):List Int:=rs.foldl (λl r=>gu r l) l
theorem Za(x:Int):∀(rs l:List Int),x∈nM rs l↔x∈rs\/x∈l
 |[],l=>by simp[nM]
 |r::rs,l=>by
  have:=Za x rs (gu r l);simp only[nM,tU] at this|-;rw[this,KZ];simp only[cq];constructor
  .rintro (h |h |h)
   .exact .inl (.inr h)
   .exact .inl (.inl h)
   .exact .inr h
  .rintro ((h |h) |h)
   .exact .inr (.inl h)
   .exact .inl h
   .exact .inr (.inr h)
theorem Zb:∀{rs l:List Int},dn l->rs.Nodup->(∀r∈rs,r∉l)->dn (nM rs l)
 |[],l,h,_,_=>h
 |r::rs,l,h,hn,hd=>by
  obtain⟨h1,h2⟩:=tW.1 hn;show dn (nM rs (gu r l));refine Zb (Y8 h (hd r (by simp))) h2 λx hx hm=>?_;rcases(KZ r x l).1 hm with rfl |hm
  .exact h1 hx
  .exact hd x (kA _ hx) hm
theorem Zc:∀(rs l:List Int),O (nM rs l)=O l+O rs
 |[],l=>rfl
 |r::rs,l=>by
  have:=Zc rs (gu r l);simp only[nM,tU] at this|-;rw[this,Y9];simp;omega
theorem Zd:∀{a b:List Int},dn a->dn b->(∀x,x∈a↔x∈b)->a=b
 |[],[],_,_,_=>rfl
 |[],y::b,_,_,h=>absurd ((h y).2 (by simp)) (by simp)
 |x::a,[],_,_,h=>absurd ((h x).1 (by simp)) (by simp)
 |x::a,y::b,ha,hb,h=>by
  obtain⟨a1,a2⟩:=pP.1 ha;obtain⟨b1,b2⟩:=pP.1 hb;have lG:x=y:=by
   have h1:=(h x).1 (by simp);have h2:=(h y).2 (by simp);rcases cq.1 h1 with h1 |h1
   .exact h1
   .rcases cq.1 h2 with h2 |h2
    .exact h2.symm
    .have:=b1 x h1;have:=a1 y h2;omega
  subst lG;congr 1
  refine Zd a2 b2 λz=>?_;constructor
  .intro hz;rcases cq.1 ((h z).1 (kA _ hz)) with rfl |h1
   .have:=a1 z hz;omega
   .exact h1
  .intro hz;rcases cq.1 ((h z).2 (kA _ hz)) with rfl |h1
   .have:=b1 z hz;omega
   .exact h1
def rowOf(S:fV)(s f:Nat):Option (Int×List Int):=(S[s]?).bind λR=>R[f]?
theorem amO(S:fV)(s f:Nat)(r:Int)(s' f':Nat):rowOf (Cl s f r S) s' f'=if s'=s/\f'=f then(rowOf S s' f').map (λp=>(p.1,gu r p.2)) else rowOf S s' f':=by
 unfold rowOf Cl;rw[AD];cases h:S[s']? with
 |none=>simp
 |some R=>
  by_cases hs:s=s'
  .subst hs;show Rj (Z (if s=s then _ else _)) _=_;rw[if_pos rfl];simp only[Lc,true_and];rw[AD];cases h2:R[f']? with
   |none=>simp
   |some p=>
    by_cases hf:f=f'
    .subst hf;show Z (if f=f then _ else _)=_;rw[if_pos rfl,if_pos rfl];rfl
    .show Z (if f=f' then _ else _)=_;rw[if_neg hf,if_neg (λe=>hf e.symm)]
  .show Rj (Z (if s=s' then _ else _)) _=_;rw[if_neg hs,if_neg (λe=>hs e.1.symm)]
theorem K0(bs:List Bool)(k s f:Nat)(r:Int)(S:fV)(s' f':Nat):rowOf (nH bs k s f r S) s' f'=if bs.getD k false=true/\s'=s/\f'=f then(rowOf S s' f').map (λp=>(p.1,gu r p.2)) else rowOf S s' f':=by
 unfold nH;split
 .rename_i h;rw[amO];by_cases h2:s'=s/\f'=f
  .rw[if_pos h2,if_pos ⟨h,h2⟩]
  .rw[if_neg h2,if_neg (λe=>h2 e.2)]
 .rename_i h;rw[if_neg (λe=>h e.1)]
theorem QM(bs:List Bool)(k f:Nat)(r:Int)(S:fV)(s' f':Nat):∀n,rowOf (qh bs k f r n S) s' f'=if bs.getD k false=true/\f'=f/\1<=s'/\s'<=n then(rowOf S s' f').map (λp=>(p.1,gu r p.2)) else rowOf S s' f'
 | 0=>by rw[if_neg (by omega)];rfl
 |n+1=>by
  have ih:=QM bs k f r S s' f' n;simp only[qh];rw[K0];by_cases h:s'=n+1
  .subst h;rw[ih,if_neg (c:=_/\_/\_/\n+1<=n) (by omega)];by_cases h2:bs.getD k false=true/\f'=f
   .rw[if_pos ⟨h2.1,rfl,h2.2⟩,if_pos ⟨h2.1,h2.2,by omega,aK _⟩]
   .rw[if_neg (λe=>h2 ⟨e.1,e.2.2⟩),if_neg (λe=>h2 ⟨e.1,e.2.1⟩)]
  .rw[if_neg (λe=>h e.2.1),ih];by_cases h2:bs.getD k false=true/\f'=f/\1<=s'/\s'<=n
   .rw[if_pos h2,if_pos ⟨h2.1,h2.2.1,h2.2.2.1,by omega⟩]
   .rw[if_neg h2,if_neg (λe=>h2 ⟨e.1,e.2.1,e.2.2.1,by omega⟩)]
def qo(vs:List Bool)(e:Nat×Nat×Int×Int)(s f:Nat):Bool:=decide (f=e.2.2.1.toNat)&&(decide (s=e.2.1)||(decide (e.2.1=0)&& !vs.getD e.2.2.1.toNat false))
theorem amP(bs vs:List Bool)(st:Int)(S:fV)(e:Nat×Nat×Int×Int)(s f:Nat)(hs:s<st.toNat):
    rowOf (kV bs vs st S e) s f=if(bs.getD (e.1-1) false&&qo vs e s f)=true then(rowOf S s f).map (λp=>(p.1,gu e.2.2.2 p.2)) else rowOf S s f:=by
 unfold kV qo;simp only[bL,nR,decide_eq_true_eq,sR];split
 .rename_i h;rw[K0];by_cases h2:bs.getD (e.1-1) false=true/\s=e.2.1/\f=e.2.2.1.toNat
  .rw[if_pos h2,if_pos ⟨h2.1,h2.2.2,.inl h2.2.1⟩]
  .rw[if_neg h2,if_neg];rintro⟨a1,a2,a3 |⟨a3,a4⟩⟩
   .exact h2 ⟨a1,a3,a2⟩
   .rcases h with h |h
    .omega
    .rw[a4] at h;cases h
 .rename_i h;simp only[not_or,Lg,aoR,aoS] at h;rw[QM,K0];by_cases h2:bs.getD (e.1-1) false=true/\f=e.2.2.1.toNat
  .rw[if_pos (c:=_/\_/\(_\/_)) ⟨h2.1,h2.2,.inr ⟨h.1,h.2⟩⟩];by_cases h3:s=0
   .rw[if_neg (by omega),if_pos ⟨h2.1,by omega,h2.2⟩]
   .rw[if_pos ⟨h2.1,h2.2,by omega,by omega⟩,if_neg (by omega)]
  .rw[if_neg (λe=>h2 ⟨e.1,e.2.1⟩),if_neg (λe=>h2 ⟨e.1,e.2.2⟩),if_neg (λe=>h2 ⟨e.1,e.2.1⟩)]
def nN(bs vs:List Bool)(L:List (Nat×Nat×Int×Int))(s f:Nat):List Int:=(L.filter λe=>bs.getD (e.1-1) false&&qo vs e s f).map (·.2.2.2)
theorem QN(bs vs:List Bool)(st:Int)(s f:Nat)(hs:s<st.toNat):∀(L:List (Nat×Nat×Int×Int)) (S:fV),
    rowOf (L.foldl (kV bs vs st) S) s f=(rowOf S s f).map λp=>(p.1,nM (nN bs vs L s f) p.2)
 |[],S=>by simp[nN,nM]
 |e::L,S=>by
  rw[tU,QN bs vs st s f hs L,amP _ _ _ _ _ _ _ hs];unfold nN;rw[Az];split
  .rw[CX];congr 1
  .rfl
theorem Ze(bb:List Bn)(n s f:Nat)(hs:s<n):rowOf (dX n (ji bb)) s f=(bb[f]?).map λb=>(b.lo.ar,els b.lo.tu):=by
 unfold rowOf ji;rw[aoT,if_pos hs];simp
theorem amQ(bs vs:List Bool)(st:Int)(S:fV)(e:Nat×Nat×Int×Int):O (kV bs vs st S e)=O S:=by
 have h1:∀(k s f:Nat) (r:Int) (S:fV),O (nH bs k s f r S)=O S:=λk s f r S=>by
  unfold nH Cl;split<;>simp
 have h2:∀(k f:Nat) (r:Int) (n:Nat) (S:fV),O (qh bs k f r n S)=O S:=λk f r n S=>by
  induction n with
  |zero=>rfl
  |succ n ih=>simp only[qh];rw[h1,ih]
 unfold kV;split
 .rw[h1]
 .rw[h2,h1]
theorem Zf(bs vs:List Bool)(st:Int):∀(L:List (Nat×Nat×Int×Int)) (S:fV),O (L.foldl (kV bs vs st) S)=O S
 |[],S=>rfl
 |e::L,S=>by rw[tU,Zf bs vs st L,amQ]
def vV(e:Nat×Nat×Int×Int):Nat×Int×Int:=(e.2.1,e.2.2.1,e.2.2.2)
theorem FY(vs:List Bool)(s:Nat):∀(K:List (Int×Int)) (v:Nat),(jg vs s K v).map vV=(K.filter λp=>!pq vs s p.1).map λp=>(s,p.1,p.2)
 |[],_=>rfl
 |(a,b)::r,v=>by
  simp only[jg];by_cases hs:pq vs s a=true
  .simp[hs,FY vs s r v]
  .have hs:pq vs s a=false:=by simpa using hs
   simp only[hs,Az,Q9,if_true,qp,if_false,cB,FY vs s r (v+1)];rfl
theorem Zg(vs:List Bool){K:List (Int×Int)}(hK:K.Nodup):∀(n s v:Nat),((gC vs K n s v).map vV).Nodup
 | 0,_,_=>by simp[gC]
 |n+1,s,v=>by
  simp only[gC,oJ];rw[Q7];refine⟨?_,Zg vs hK n (s+1) _,?_⟩
  .rw[FY];refine AB.2 (Ri ?_ (Gg _ hK));rintro⟨a,b⟩ ⟨a',b'⟩ h h2;simp only[mr,true_and] at h2;exact h (by rw[h2.1,h2.2])
  .intro x hx y hy;obtain⟨e,he,rfl⟩:=cA.1 hx;obtain⟨e',A3,rfl⟩:=cA.1 hy;have h1:=(Ky vs s K v e he).1;have h2:=(xH vs K n (s+1) _ e' A3).1;intro h;have :e.2.1=e'.2.1:=congrArg wm h;omega
theorem Zh(vs:List Bool)(K:List (Int×Int)):∀(n s v:Nat) e,e∈gC vs K n s v->pq vs e.2.1 e.2.2.1=false
 | 0,_,_,_,h=>by simp[gC] at h
 |n+1,s,v,e,h=>by
  simp only[gC,cx] at h;rcases h with h |h
  .have :vV e∈(jg vs s K v).map vV:=Q3 h;rw[FY] at this;obtain⟨p,hp,hk⟩:=cA.1 this;have h2:=(my.1 hp).2;have e1:s=e.2.1:=congrArg wm hk;have e2:p.1=e.2.2.1:=congrArg (λk=>k.2.1) hk;rw[<-e1,<-e2];simpa using h2
  .exact Zh vs K n (s+1) _ e h
theorem FZ:∀(l:List Bn) (i:Nat) (p:Int×Int),p∈bu i l↔∃(j:Nat) (b:Bn),l[j]? =Z b/\p.1=((i+j:Nat):Int)/\p.2∈els b.up.tu/\p.2∉els b.lo.tu
 |[],i,p=>by simp[bu]
 |b::r,i,p=>by
  simp only[bu,cx,FZ r (i+1) p];constructor
  .rintro (h |⟨j,b',h1,h2,h3⟩)
   .unfold mO at h;obtain⟨t,ht,rfl⟩:=cA.1 h;obtain⟨h1,h2⟩:=my.1 ht;exact⟨0,b,rfl,rfl,h1,by simpa using h2⟩
   .exact⟨j+1,b',by simpa using h1,by rw[h2];congr 1;omega,h3⟩
  .rintro⟨j,b',h1,h2,h3,h4⟩;cases j with
   |zero=>
    simp at h1;subst h1;left;unfold mO;exact cA.2 ⟨p.2,my.2 ⟨h3,by simpa using h4⟩,by rw[<-show p.1=(i:Int) from h2]⟩
   |succ j=>exact .inr ⟨j,b',by simpa using h1,by rw[h2];congr 1;omega,h3,h4⟩
theorem Zi{l:List Int}(h:dn l):l.Nodup:=Ri (λh e=>by omega) h
theorem Zj:∀(l:List Bn) (i:Nat),(∀b∈l,dn (els b.up.tu))->(bu i l).Nodup
 |[],_,_=>by simp[bu]
 |b::r,i,h=>by
  simp only[bu];rw[Q7];refine⟨?_,Zj r (i+1) λx hx=>h x (kA _ hx),?_⟩
  .unfold mO;refine AB.2 (Ri ?_ (Gg _ (Zi (h b (by simp)))));intro a b h h2;exact h (congrArg Prod.snd h2)
  .intro x hx y hy lG;unfold mO at hx;obtain⟨t,_,rfl⟩:=cA.1 hx;obtain⟨j,b',_,h2,_⟩:=(FZ r (i+1) y).1 hy;rw[<-lG] at h2;simp only at h2;omega
variable{K:List (Int×Int)}{L:List (Nat×Nat×Int×Int)}{vs:List Bool}{f:Nat}
theorem Zk{bs:List Bool}{s:Nat}{r:Int}:r∈nN bs vs L s f↔∃e∈L,bs.getD (e.1-1) false=true/\qo vs e s f=true/\e.2.2.2=r:=by
 unfold nN;rw[cA];constructor
 .rintro⟨e,he,rfl⟩;obtain⟨h1,h2⟩:=my.1 he;simp only[bL] at h2;exact⟨e,h1,h2.1,h2.2,rfl⟩
 .rintro⟨e,h1,h2,h3,rfl⟩;exact⟨e,my.2 ⟨h1,by rw[h2,h3];rfl⟩,rfl⟩
structure sN (vs:List Bool) (K:List (Int×Int)) (L:List (Nat×Nat×Int×Int)):Prop where
 ky:L.Pairwise λe e'=>vV e≠vV e'
 sk:∀e∈L,pq vs e.2.1 e.2.2.1=false
 fr:∀e∈L,(e.2.2.1,e.2.2.2)∈K
 nn:∀e∈L,0<=e.2.2.1
theorem sN.take(h:sN vs K L)(j:Nat):sN vs K (L.take j):=
 ⟨asD (List.take_sublist j L) h.ky,λe he=>h.sk e (jn he),λe he=>h.fr e (jn he),λe he=>h.nn e (jn he)⟩
theorem F0{e:Nat×Nat×Int×Int}{s:Nat}:qo vs e s f=true↔f=e.2.2.1.toNat/\(s=e.2.1\/e.2.1=0/\vs.getD e.2.2.1.toNat false=false):=by
 unfold qo;simp
theorem sN.same(h:sN vs K L){e e':Nat×Nat×Int×Int}(he:e∈L)(A3:e'∈L){s:Nat}(h1:qo vs e s f=true)(h2:qo vs e' s f=true)(hr:e.2.2.2=e'.2.2.2):vV e=vV e':=by
 obtain⟨a1,a2⟩:=F0.1 h1;obtain⟨b1,b2⟩:=F0.1 h2;have hn:=h.nn e he;have cE:=h.nn e' A3;have hf:e.2.2.1=e'.2.2.1:=by omega
 have k1:=h.sk e he;have k2:=h.sk e' A3;have hs:e.2.1=e'.2.1:=by
  rcases a2 with a2 |⟨a2,a3⟩
  .rcases b2 with b2 |⟨b2,b3⟩
   .omega
   .by_cases h0:e.2.1=0
    .omega
    .simp only[pq,Ld,decide_eq_false_iff_not,Z3] at k1;rcases k1 with k1 |k1
     .omega
     .rw[<-hf,k1] at b3;cases b3
  .rcases b2 with b2 |⟨b2,b3⟩
   .by_cases h0:e'.2.1=0
    .omega
    .simp only[pq,Ld,decide_eq_false_iff_not,Z3] at k2;rcases k2 with k2 |k2
     .omega
     .rw[hf,k2] at a3;cases a3
   .omega
 unfold vV;rw[hs,hf,hr]
theorem sN.nodup(h:sN vs K L)(bs:List Bool)(s f:Nat):(nN bs vs L s f).Nodup:=by
 unfold nN;refine AB.2 ?_;refine aoU ?_ (Gg _ h.ky);intro a b ha hb hk hr;obtain⟨a1,a2⟩:=my.1 ha;obtain⟨b1,b2⟩:=my.1 hb;simp only[bL] at a2 b2;exact hk (h.same a1 b1 a2.2 b2.2 hr)

variable {fi : List Fi} {bb : List Bn} {st : Int}
theorem CL(rB:∀b∈bb,dn (els b.up.tu)):sN (fi.map Fi.va) (bu 0 bb) (cz fi bb st) where
 ky:=AB.1 (Zg (fi.map Fi.va) (Zj bb 0 rB) st.toNat 0 (bF st))
 sk:=Zh _ _ _ _ _
 fr e he:=(xH _ _ _ _ _ e he).2.2
 nn e he:=by
  obtain⟨j,h,_⟩:=xF _ _ _ (xH _ _ _ _ _ e he).2.2;simp only at h;omega
theorem K1(h:sN (fi.map Fi.va) (bu 0 bb) L)(bs:List Bool){s:Nat}(hs:s<st.toNat){b:Bn}(hb:bb[f]? =Z b)(cN:dn (els b.lo.tu)):
    rowOf (L.foldl (kV bs (fi.map Fi.va) st) (dX st.toNat (ji bb))) s f=Z (b.lo.ar,nM (nN bs (fi.map Fi.va) L s f) (els b.lo.tu))/\dn (nM (nN bs (fi.map Fi.va) L s f) (els b.lo.tu)):=by
 refine⟨by rw[QN _ _ _ _ _ hs,Ze _ _ _ _ hs,hb];rfl,Zb cN (h.nodup bs s f) λr hr hl=>?_⟩;obtain⟨e,h1,_,h3,rfl⟩:=Zk.1 hr;obtain⟨j,b',g1,g2,_,g4⟩:=(FZ bb 0 _).1 (h.fr e h1);have:=(F0.1 h3).1;simp only at g2 g4;have :j=f:=by omega
 subst this;rw[hb] at g1;cases g1;exact g4 hl
theorem amR(bs vs:List Bool)(L:List (Nat×Nat×Int×Int))(s f:Nat):O (nN bs vs L s f)<=O L:=by
 unfold nN;rw[bT];exact C3 _ _
theorem Zl{S:fV}{s:Nat}{p:Int×List Int}(h:rowOf S s f=Z p):∃R,S[s]? =Z R/\R[f]? =Z p:=by
 unfold rowOf at h;cases hS:S[s]? with
 |none=>rw[hS] at h;cases h
 |some R=>rw[hS] at h;exact⟨R,rfl,h⟩
theorem amS(bs:List Bool)(hbl:O bb=O fi)(hst:1<=st)(rB:∀b∈bb,dn (els b.up.tu))(cN:∀b∈bb,dn (els b.lo.tu)/\O (els b.lo.tu)<=1000)(hL:O (cz fi bb st)<=100000):YT fi bb st bs:=by
 intro j e he;have hv:=(CL (fi:=fi) (st:=st) rB).take j;have QO:=bB he;obtain⟨_,hs,hf⟩:=xH _ _ _ _ _ e QO;obtain⟨k,hk,_,eM⟩:=xF _ _ _ hf;simp only at hk eM;have hb:bb[k]? =Z bb[k]:=aD (by omega);have jP:=bB hb;have hlen:∀s',O (nM (nN bs (fi.map Fi.va) ((cz fi bb st).take j) s' k) (els bb[k].lo.tu))<1000000:=λs'=>by
  rw[Zc];have h1:=amR bs (fi.map Fi.va) ((cz fi bb st).take j) s' k;have h2:O ((cz fi bb st).take j)<=O (cz fi bb st):=by rw[kY];omega
  have h3:=(cN _ jP).2;omega
 have iw:e.2.2.1.toNat=k:=by omega
 refine⟨?_,λhn n kf=>?_⟩
 .obtain⟨h1,h2⟩:=K1 hv bs (s:=e.2.1) (st:=st) (by omega) hb (cN _ jP).1;obtain⟨R,r1,r2⟩:=Zl h1;rw[iw];exact⟨R,_,_,r1,r2,h2,hlen _⟩
 .obtain⟨h1,h2⟩:=K1 hv bs (s:=n+1) (st:=st) (by omega) hb (cN _ jP).1;rw[iw] at hn|-;have h3:rowOf (qh bs (e.1-1) k e.2.2.2 n (nH bs (e.1-1) e.2.1 k e.2.2.2 (((cz fi bb st).take j).foldl (kV bs (fi.map Fi.va) st) (dX st.toNat (ji bb))))) (n+1) k=Z (bb[k].lo.ar,nM (nN bs (fi.map Fi.va) ((cz fi bb st).take j) (n+1) k) (els bb[k].lo.tu)):=by
   rw[QM,if_neg (by omega),K0,if_neg (by rintro⟨_,h,_⟩;exact hn (.inl (by omega))),h1]
  obtain⟨R,r1,r2⟩:=Zl h3;exact⟨R,_,_,r1,r2,h2,hlen _⟩

end Go.Proofs.YtgplgbonlnodeaaGreatDoor

namespace Go.Proofs.YtgplgbonlnodeaaGreatDoor
theorem Zm(bs vs:List Bool)(st:Int)(bb:List Bn)(L:List (Nat×Nat×Int×Int)){s f:Nat}(hs:s<st.toNat)(hb:bb[f]? =Y):rowOf (L.foldl (kV bs vs st) (dX st.toNat (ji bb))) s f=Y:=by
 rw[QN _ _ _ _ _ hs,Ze _ _ _ _ hs,hb];rfl
variable{st:Int}{V:List Bool}{l:List Int}
theorem amT{fi:List Fi}{bb:List Bn}(rB:∀b∈bb,dn (els b.up.tu))(cN:∀b∈bb,dn (els b.lo.tu)){ss:List (Sl Rl)}(h:ss.map stM=pI fi bb st V):
    O ss=st.toNat/\∀(s:Nat) x,ss[s]? =Z x->O (els x)=O bb/\∀(f:Nat) r,(els x)[f]? =Z r->∃b,bb[f]? =Z b/\r.ar=b.lo.ar/\els r.tu=nM (nN V (fi.map Fi.va) (cz fi bb st) s f) (els b.lo.tu)/\dn (els r.tu):=by
 have hlen:O ss=st.toNat:=by
  have:=congrArg oI h;rw[bT] at this;unfold pI at this;rw[Zf,CV] at this;exact this
 refine⟨hlen,λs x hx=>?_⟩;have bW:s<st.toNat:=by have:=(af.1 hx).1;omega
 have hR:(pI fi bb st V)[s]? =Z (stM x):=by rw[<-h,cG,hx];rfl
 have hrow:∀f,rowOf (pI fi bb st V) s f=(els x)[f]?.map λr=>(r.ar,els r.tu):=λf=>by
  unfold rowOf;rw[hR];simp[stM]
 constructor
 .rcases Gf (O (els x)) (O bb) with h1 |h1 |h1
  .have h2:=hrow (O (els x));rw[nS (aK _)] at h2;have hb:bb[O (els x)]? =Z bb[O (els x)]:=aD h1;have h3:=(K1 (fi:=fi) (CL (st:=st) rB) V bW hb (cN _ (bB hb))).1;unfold pI at h2;rw[h3] at h2;cases h2
  .exact h1
  .have h2:=hrow (O bb);rw[aD h1] at h2;unfold pI at h2;rw[Zm _ _ _ _ _ bW (nS (aK _))] at h2;cases h2
 .intro f r hr;have h2:=hrow f;rw[hr] at h2;cases hb:bb[f]? with
  |none=>
   unfold pI at h2;rw[Zm _ _ _ _ _ bW hb] at h2;cases h2
  |some b=>
   obtain⟨h3,h4⟩:=K1 (fi:=fi) (CL (st:=st) rB) V bW hb (cN _ (bB hb));unfold pI at h2;rw[h3] at h2;simp only[fy,bM,mr] at h2;exact⟨b,rfl,h2.1.symm,h2.2.symm,by rw[<-h2.2];exact h4⟩
theorem amU(h:dn l){i:Nat}{x y:Int}(hi:0<i)(hx:l[i]? =Z x)(hy:l[i-1]? =Z y):y<x:=by
 obtain⟨h1,rfl⟩:=af.1 hx;obtain⟨h2,rfl⟩:=af.1 hy;exact C1.1 h (i-1) i h2 h1 (by omega)
theorem vC.part{n ar:Int}{u:List Int}(h:vC n ar u)(hs:dn l)(jR:∀x∈l,x∈u):vC n ar l:=by
 obtain⟨h1,h2,h3,h4,h5⟩:=h;refine⟨h1,h2,h3,h4,λi hi=>⟨λx hx=>?_,λx y h0 hx hy=>amU hs h0 hx hy⟩⟩;obtain⟨k,hk⟩:=dV (jR x (bB hx));exact(h5 k (af.1 hk).1).1 x hk
theorem amV(ats:List Int)(n:Int):∀(so:List Int) (t:Int),(jX n (O so) t).map (mg ats 0)=so.reverse.reverse->JZ ats n so.reverse t:=by
 have key:∀(k:Nat) (l:List Int) (t:Int),O l=k->(jX n k t).map (mg ats 0)=l.reverse->JZ ats n l t:=by
  intro k
  induction k with
  |zero=>intro l t hl _;have:=sO hl;subst this;trivial
  |succ k ih=>
   intro l t hl h;cases l with
   |nil=>simp at hl
   |cons s r=>
    simp only[jX,oJ,cB,j4,List.reverse_cons] at h;have hl2:O r=k:=by simpa using hl
    have h2:=List.append_inj' h rfl;refine⟨?_,ih r _ hl2 h2.1⟩;simpa using h2.2
 intro so t h;refine key (O so) so.reverse t (by simp) ?_;simpa using h
theorem Cu.within{n:Nat}{ats so:List Int}{b:Bn}(h:Cu n ats so b)(hn:(n:Int)=Xb ats):Pc ats so (els b.up.tu):=by
 obtain⟨_,_,_,_,_,h6⟩:=h;intro t ht;have h7:=h6 t ht;unfold lJ at h7;obtain⟨k,hk,rfl⟩:=cA.1 h7;have h8:=(my.1 hk).2;simp only[decide_eq_true_eq] at h8;rw[<-hn];exact amV ats n so k (by rw[List.reverse_reverse];exact h8)

variable{sp : Sp} {a ma : Sl Int}  {bs : Sl Bn} {ss : Sl (Sl Rl)} 
theorem nK.sup(ok:nK sp a st bs):∀b∈els bs,dn (els b.up.tu):=λb hb=>by
 obtain⟨_,_,_,_,h,_⟩:=ok.at b hb;exact KB h
theorem nK.xJ(ok:nK sp a st bs):∀b∈els bs,dn (els b.lo.tu):=λb hb=>by
 obtain⟨_,_,_,h,_⟩:=ok.at b hb;exact KB h
theorem amW(hst:1<=st):((bF st:Nat):Int)<=st:=by
 unfold bF;split<;>omega

end Go.Proofs.YtgplgbonlnodeaaGreatDoor

namespace Go.Proofs.YtgplgbonlnodeaaGreatDoor
def jl(S:jY)(s f:Nat):Option (Int×List (Int×Int)):=(S[s]?).bind λR=>R[f]?
def F5(c:Int×Int)(p:Int×List (Int×Int)):Int×List (Int×Int):=(p.1,p.2++[c])
theorem QP(S:jY)(s f:Nat)(c:Int×Int)(s' f':Nat):jl (FP s f c S) s' f'=if s'=s/\f'=f then(jl S s' f').map (F5 c) else jl S s' f':=by
 unfold jl FP;rw[AD];cases h:S[s']? with
 |none=>simp
 |some R=>
  by_cases hs:s=s'
  .subst hs;show Rj (Z (if s=s then _ else _)) _=_;rw[if_pos rfl];simp only[Lc,true_and];rw[AD];cases h2:R[f']? with
   |none=>simp
   |some p=>
    by_cases hf:f=f'
    .subst hf;show Z (if f=f then _ else _)=_;rw[if_pos rfl,if_pos rfl];rfl
    .show Z (if f=f' then _ else _)=_;rw[if_neg hf,if_neg (λe=>hf e.symm)]
  .show Rj (Z (if s=s' then _ else _)) _=_;rw[if_neg hs,if_neg (λe=>hs e.1.symm)]
theorem QQ(rs:List Int)(k f:Nat)(r:Int)(S:jY)(s' f':Nat):∀n,jl (rz (kW rs) k f r n S) s' f'=if f'=f/\1<=s'/\s'<=n then(jl S s' f').map (F5 (r,rs.getD (k+1) 0)) else jl S s' f'
 | 0=>by rw[if_neg (by omega)];rfl
 |n+1=>by
  have ih:=QQ rs k f r S s' f' n;simp only[rz];unfold kW at ih|-;rw[QP];by_cases h:s'=n+1
  .subst h;rw[ih,if_neg (c:=_/\_/\n+1<=n) (by omega)];by_cases h2:f'=f
   .rw[if_pos ⟨rfl,h2⟩,if_pos ⟨h2,by omega,aK _⟩]
   .rw[if_neg (λe=>h2 e.2),if_neg (λe=>h2 e.1)]
  .rw[if_neg (λe=>h e.1),ih];by_cases h2:f'=f/\1<=s'/\s'<=n
   .rw[if_pos h2,if_pos ⟨h2.1,h2.2.1,by omega⟩]
   .rw[if_neg h2,if_neg (λe=>h2 ⟨e.1,e.2.1,by omega⟩)]
theorem amX(rs:List Int)(vs:List Bool)(st:Int)(S:jY)(e:Nat×Nat×Int×Int)(s f:Nat)(hs:s<st.toNat):
    jl (stepG (kW rs) vs st S e) s f=if qo vs e s f=true then(jl S s f).map (F5 (e.2.2.2,rs.getD (e.1-1+1) 0)) else jl S s f:=by
 have Zn:∀k s f r S s' f',jl (kW rs k s f r S) s' f'=if s'=s/\f'=f then(jl S s' f').map (F5 (r,rs.getD (k+1) 0)) else jl S s' f':=λk s f r S s' f'=>QP S s f _ s' f'
 unfold stepG qo;simp only[bL,nR,decide_eq_true_eq,sR];split
 .rename_i h;rw[Zn];by_cases h2:s=e.2.1/\f=e.2.2.1.toNat
  .rw[if_pos h2,if_pos ⟨h2.2,.inl h2.1⟩]
  .rw[if_neg h2,if_neg];rintro⟨a2,a3 |⟨a3,a4⟩⟩
   .exact h2 ⟨a3,a2⟩
   .rcases h with h |h
    .omega
    .rw[a4] at h;cases h
 .rename_i h;simp only[not_or,Lg,aoR,aoS] at h;rw[QQ,Zn];by_cases h2:f=e.2.2.1.toNat
  .rw[if_pos (c:=_/\(_\/_)) ⟨h2,.inr ⟨h.1,h.2⟩⟩];by_cases h3:s=0
   .rw[if_neg (by omega),if_pos ⟨by omega,h2⟩]
   .rw[if_pos ⟨h2,by omega,by omega⟩,if_neg (by omega)]
  .rw[if_neg (λe=>h2 e.1),if_neg (λe=>h2 e.2),if_neg (λe=>h2 e.1)]
def vW(rs:List Int)(vs:List Bool)(L:List (Nat×Nat×Int×Int))(s f:Nat):List (Int×Int):=(L.filter λe=>qo vs e s f).map λe=>(e.2.2.2,rs.getD (e.1-1+1) 0)
theorem Zo(rs:List Int)(vs:List Bool)(st:Int)(s f:Nat)(hs:s<st.toNat):∀(L:List (Nat×Nat×Int×Int)) (S:jY),
    jl (L.foldl (stepG (kW rs) vs st) S) s f=(jl S s f).map λp=>(p.1,p.2++vW rs vs L s f)
 |[],S=>by simp[vW]
 |e::L,S=>by
  rw[tU,Zo rs vs st s f hs L,amX _ _ _ _ _ _ _ hs];unfold vW;rw[Az];split
  .rw[CX];congr 1
   funext p
   simp[F5]
  .rfl
theorem amY(bb:List Bn)(n s f:Nat)(hs:s<n):jl (dX n (jk bb)) s f=(bb[f]?).map λb=>(b.lo.ar,(els b.lo.tu).map λx=>(x,0)):=by
 unfold jl jk;rw[aoT,if_pos hs];simp
theorem QR(s f:Nat)(c:Int×Int)(S:jY):O (FP s f c S)=O S:=by unfold FP;simp
theorem amZ(rs:List Int)(vs:List Bool)(st:Int)(S:jY)(e:Nat×Nat×Int×Int):O (stepG (kW rs) vs st S e)=O S:=by
 have h2:∀(k f:Nat) (r:Int) (n:Nat) (S:jY),O (rz (kW rs) k f r n S)=O S:=λk f r n S=>by
  induction n with
  |zero=>rfl
  |succ n ih=>simp only[rz];rw[show(kW rs k (n+1) f r _).length=_ from QR _ _ _ _,ih]
 unfold stepG;split
 .exact QR _ _ _ _
 .rw[h2];exact QR _ _ _ _
theorem K2(rs:List Int)(vs:List Bool)(st:Int):∀(L:List (Nat×Nat×Int×Int)) (S:jY),O (L.foldl (stepG (kW rs) vs st) S)=O S
 |[],S=>rfl
 |e::L,S=>by rw[tU,K2 rs vs st L,amZ]
def CM(l:List (Int×Int)):Prop:=l.Pairwise λa b=>a.1<b.1
theorem QS(x y:Int×Int):∀l,y∈qV x l↔y=x\/y∈l
 |[]=>by simp[qV]
 |z::l=>by
  simp only[qV];split
  .simp only[cq]
  .simp only[cq,QS x y l];constructor
   .rintro (h |h |h)
    .exact .inr (.inl h)
    .exact .inl h
    .exact .inr (.inr h)
   .rintro (h |h |h)
    .exact .inr (.inl h)
    .exact .inl h
    .exact .inr (.inr h)
theorem Aq(y:Int×Int):∀l,y∈eY l↔y∈l
 |[]=>Iff.rfl
 |x::l=>by simp only[eY,QS,Aq y l,cq]
theorem Zp{x:Int×Int}:∀{l:List (Int×Int)},CM l->(∀y∈l,x.1≠y.1)->CM (qV x l)
 |[],_,_=>by simp[qV,CM]
 |z::l,h,hn=>by
  obtain⟨h1,h2⟩:=pP.1 h;have hz:=hn z (by simp);simp only[qV];split
  .refine pP.2 ⟨λy hy=>?_,h⟩;rcases cq.1 hy with rfl |hy
   .omega
   .have:=h1 y hy;omega
  .refine pP.2 ⟨λy hy=>?_,Zp h2 λy hy=>hn y (kA _ hy)⟩;rcases(QS x y l).1 hy with rfl |hy
   .omega
   .exact h1 y hy
theorem K3:∀{l:List (Int×Int)},(l.map wm).Nodup->CM (eY l)
 |[],_=>asE
 |x::l,h=>by
  rw[cB] at h;obtain⟨h1,h2⟩:=tW.1 h;exact Zp (K3 h2) λy hy e=>h1 (by rw[e];exact Q3 ((Aq y l).1 hy))
theorem Zr:∀{l:List (Int×Int)},CM l->xf l=true
 |[],_=>rfl
 |[_],_=>rfl
 |x::y::l,h=>by
  obtain⟨h1,h2⟩:=pP.1 h;simp only[xf,bL,decide_eq_true_eq];exact⟨h1 y (by simp),Zr h2⟩
theorem am0{l:List (Int×Int)}(h1:O l<1000000)(h2:(l.map wm).Nodup)(h3:∀x∈l,0<=x.1/\x.1<4611686018427387904):CI l:=
 ⟨h1,Zr (K3 h2),by unfold BD;rw[gV];intro x hx;simpa using h3 x hx⟩
def pJ(rs:List Int)(vs:List Bool)(L:List (Nat×Nat×Int×Int))(b:Bn)(s f:Nat):List (Int×Int):=((els b.lo.tu).map λx=>(x,0))++vW rs vs L s f

variable{b:Bn}{L:List (Nat×Nat×Int×Int)}{vs:List Bool}{rs:List Int}{f:Nat}
variable{fi : List Fi} {bb : List Bn} {st : Int} 
theorem K4{s:Nat}(hs:s<st.toNat):jl (L.foldl (stepG (kW rs) vs st) (dX st.toNat (jk bb))) s f=(bb[f]?).map λb=>(b.lo.ar,pJ rs vs L b s f):=by
 rw[Zo _ _ _ _ _ hs,amY _ _ _ _ hs,CX];rfl
theorem Zs(rs:List Int)(vs:List Bool)(L:List (Nat×Nat×Int×Int))(s f:Nat):O (vW rs vs L s f)<=O L:=by
 unfold vW;rw[bT];exact C3 _ _
theorem K5{s:Nat}{c:Int×Int}:c∈vW rs vs L s f↔∃e∈L,qo vs e s f=true/\c=(e.2.2.2,rs.getD (e.1-1+1) 0):=by
 unfold vW;rw[cA];constructor
 .rintro⟨e,he,rfl⟩;obtain⟨h1,h2⟩:=my.1 he;exact⟨e,h1,h2,rfl⟩
 .rintro⟨e,h1,h2,rfl⟩;exact⟨e,my.2 ⟨h1,h2⟩,rfl⟩
theorem QT(h:sN vs (bu 0 bb) L){s:Nat}(hb:bb[f]? =Z b)(cN:dn (els b.lo.tu)):((pJ rs vs L b s f).map wm).Nodup:=by
 unfold pJ;rw[oJ,pO];have e1:(els b.lo.tu).map (wm∘λx=>(x,(0 :Int)))=els b.lo.tu:=by
  rw[show(wm∘λx:Int=>(x,(0 :Int)))=id from rfl,Le]
 rw[e1,Q7];refine⟨Zi cN,?_,λx hx y hy lG=>?_⟩
 .unfold vW;rw[pO];refine AB.2 ?_;refine aoU ?_ (Gg _ h.ky);intro a b ha hb hk hr;obtain⟨a1,a2⟩:=my.1 ha;obtain⟨b1,b2⟩:=my.1 hb;exact hk (h.same a1 b1 a2 b2 hr)
 .obtain⟨c,hc,rfl⟩:=cA.1 hy;obtain⟨e,h1,h3,rfl⟩:=K5.1 hc;obtain⟨j,b',g1,g2,_,g4⟩:=(FZ bb 0 _).1 (h.fr e h1);have:=(F0.1 h3).1;simp only at g2 g4 lG;have :j=f:=by omega
  subst this;rw[hb] at g1;cases g1;exact g4 (lG▸hx)
theorem Zt(h:sN vs (bu 0 bb) L){s:Nat}(hb:bb[f]? =Z b)(jR:∀t∈els b.lo.tu,t∈els b.up.tu){c:Int×Int}(hc:c∈pJ rs vs L b s f):c.1∈els b.up.tu:=by
 rcases cx.1 hc with hc |hc
 .obtain⟨x,hx,rfl⟩:=cA.1 hc;exact jR x hx
 .obtain⟨e,h1,h3,rfl⟩:=K5.1 hc;obtain⟨j,b',g1,g2,g3,_⟩:=(FZ bb 0 _).1 (h.fr e h1);have:=(F0.1 h3).1;simp only at g2 g3;have :j=f:=by omega
  subst this;rw[hb] at g1;cases g1;exact g3
theorem Zu{S:jY}{s:Nat}{p:Int×List (Int×Int)}(h:jl S s f=Z p):∃R,S[s]? =Z R/\R[f]? =Z p:=by
 unfold jl at h;cases hS:S[s]? with
 |none=>rw[hS] at h;cases h
 |some R=>rw[hS] at h;exact⟨R,rfl,h⟩
theorem am1(hbl:O bb=O fi)(hst:1<=st)(rB:∀b∈bb,dn (els b.up.tu))(cN:∀b∈bb,dn (els b.lo.tu)/\O (els b.lo.tu)<=1000)(hL:O (cz fi bb st)<=100000)(lB:O bb<1000000)
    (hsm:∀b∈bb,(∀t∈els b.lo.tu,t∈els b.up.tu)/\∀t∈els b.up.tu,0<=t/\t<4611686018427387904) (uZ:O rs=mj fi bb st+1):QE fi bb st rs:=by
 have Zv:=CL (fi:=fi) (st:=st) rB;have ny:∀(j s:Nat) b,b∈bb->∀f,O (pJ rs (fi.map Fi.va) ((cz fi bb st).take j) b s f)<1000000:=λj s b hb f=>by
  have h1:=Zs rs (fi.map Fi.va) ((cz fi bb st).take j) s f;have h2:O ((cz fi bb st).take j)<=O (cz fi bb st):=by rw[kY];omega
  have h3:=(cN b hb).2;unfold pJ;rw[gG,bT];omega
 refine⟨λj e he=>?_,?_,λR hR=>?_⟩
 .have QO:=bB he;have hj:=(af.1 he).1;obtain⟨_,hs,hf⟩:=xH _ _ _ _ _ e QO;have uB:e.1=bF st+j+1:=Cs (fi.map Fi.va) (bu 0 bb) st.toNat 0 (bF st) j e he;obtain⟨k,hk,_,eM⟩:=xF _ _ _ hf;simp only at hk eM;have hb:bb[k]? =Z bb[k]:=aD (by omega);have jP:=bB hb;have iw:e.2.2.1.toNat=k:=by omega
  have tq:e.1-1+1<O rs:=by rw[uZ];unfold mj;omega
  refine⟨?_,λhn n kf=>?_⟩
  .have h1:=K4 (rs:=rs) (bb:=bb) (vs:=fi.map Fi.va) (L:=(cz fi bb st).take j) (s:=e.2.1) (f:=k) (st:=st) (by omega);rw[hb] at h1;obtain⟨R,r1,r2⟩:=Zu h1;rw[iw];exact⟨tq,R,_,_,r1,r2,ny j _ _ jP k⟩
  .have h1:=K4 (rs:=rs) (bb:=bb) (vs:=fi.map Fi.va) (L:=(cz fi bb st).take j) (s:=n+1) (f:=k) (st:=st) (by omega);rw[hb] at h1;rw[iw] at hn|-;have h3:=QQ rs (e.1-1) k e.2.2.2 (kW rs (e.1-1) e.2.1 k e.2.2.2 (((cz fi bb st).take j).foldl (stepG (kW rs) (fi.map Fi.va) st) (dX st.toNat (jk bb)))) (n+1) k n;rw[if_neg (by omega)] at h3;have h4:=QP (((cz fi bb st).take j).foldl (stepG (kW rs) (fi.map Fi.va) st) (dX st.toNat (jk bb))) e.2.1 k (e.2.2.2,rs.getD (e.1-1+1) 0) (n+1) k;rw[if_neg (by rintro⟨h,_⟩;exact hn (.inl (by omega))),h1] at h4;obtain⟨R,r1,r2⟩:=Zu (h3.trans h4);exact⟨tq,R,_,_,r1,r2,ny j _ _ jP k⟩
 .unfold pH;rw[K2,CV]
 .obtain⟨s,hs⟩:=dV hR;have bW:s<st.toNat:=by
   have:=(af.1 hs).1;unfold pH at this
   rwa [K2,CV] at this
  have hrow:∀f,R[f]? =(bb[f]?).map λb=>(b.lo.ar,pJ rs (fi.map Fi.va) (cz fi bb st) b s f):=λf=>by
   have h1:=K4 (rs:=rs) (bb:=bb) (vs:=fi.map Fi.va) (L:=cz fi bb st) (s:=s) (f:=f) (st:=st) bW;rw[<-h1];show _=jl (pH rs fi bb st) s f;unfold jl;rw[hs];rfl
  refine⟨?_,λp hp=>?_⟩
  .rcases fA (O bb) (O R) with h |h
   .have:=hrow (O bb);rw[aD h,nS (aK _)] at this;cases this
   .omega
  .obtain⟨f,hf⟩:=dV hp;rw[hrow f] at hf;obtain⟨b,hb,rfl⟩:=ak.1 hf;have jP:=bB hb;have hl:=ny (O (cz fi bb st)) s b jP f;rw[lQ] at hl;exact am0 hl (QT Zv hb (cN b jP).1) λx hx=>(hsm b jP).2 _ (Zt Zv hb (hsm b jP).1 hx)
theorem am2{r:Sl (Sl Mx)}(h:(els r).map vU=(pH rs fi bb st).map λR=>R.map jZ):
    O (els r)=st.toNat/\∀(s:Nat) y,(els r)[s]? =Z y->O (els y)=O bb/\∀(f:Nat) m,(els y)[f]? =Z m->∃b,bb[f]? =Z b/\m.ar=b.lo.ar/\els m.cs=eY (pJ rs (fi.map Fi.va) (cz fi bb st) b s f):=by
 have hlen:O (els r)=st.toNat:=by
  have:=congrArg oI h;rw[bT,bT] at this;unfold pH at this;rw[K2,CV] at this;exact this
 refine⟨hlen,λs y hy=>?_⟩;have bW:s<st.toNat:=by have:=(af.1 hy).1;omega
 have hrow:∀f,((els y)[f]?).map (λr=>(r.ar,els r.cs))=(bb[f]?).map λb=>(b.lo.ar,eY (pJ rs (fi.map Fi.va) (cz fi bb st) b s f)):=λf=>by
  have h1:=K4 (rs:=rs) (bb:=bb) (vs:=fi.map Fi.va) (L:=cz fi bb st) (s:=s) (f:=f) (st:=st) bW;have h2:((els r).map vU)[s]? =Z (vU y):=by rw[cG,hy];rfl
  rw[h,cG] at h2;obtain⟨R,hR,hRy⟩:=ak.1 h2;have h3:jl (pH rs fi bb st) s f=R[f]?:=by unfold jl;rw[hR];rfl
  have h4:(vU y)[f]? =(R[f]?).map jZ:=by rw[<-hRy,cG]
  unfold vU at h4;rw[cG] at h4;rw[h4,<-h3];show Option.map jZ (jl ((cz fi bb st).foldl _ _) s f)=_;rw[h1,CX];rfl
 constructor
 .rcases Gf (O (els y)) (O bb) with h1 |h1 |h1
  .have h2:=hrow (O (els y));rw[nS (aK _),aD h1] at h2;cases h2
  .exact h1
  .have h2:=hrow (O bb);rw[aD h1,nS (aK _)] at h2;cases h2
 .intro f m hm;have h2:=hrow f;rw[hm] at h2;obtain⟨b,hb,he⟩:=ak.1 h2.symm;simp only[mr] at he;exact⟨b,hb,he.1.symm,he.2.symm⟩

end Go.Proofs.YtgplgbonlnodeaaGreatDoor

namespace Go.Proofs.YtgplgbonlnodeaaGreatDoor
def Ar(V:List Bool)(l:List Gt)(c:Int×Int):Bool:=if c.2=0 then true else match l[(c.2/2).toNat]? with
 |some g=>V.getD (g.a.toNat-1) false
 |none=>false

variable {fi : List Fi} {bb : List Bn} {st : Int} {rs : List Int} {l0 l : List Gt} {r : Sl (Sl Mx)}
theorem Zw(x:xV l0 fi bb st l rs r){e:Nat×Nat×Int×Int}(he:e∈cz fi bb st):1<=e.1/\∃j:Nat,rs.getD (e.1-1+1) 0=2*(j:Int)/\l[j]? =Z ⟨1,e.1,0⟩:=by
 obtain⟨i,hi⟩:=dV he;have uB:e.1=bF st+i+1:=Cs (fi.map Fi.va) (bu 0 bb) st.toNat 0 (bF st) i e hi;have cW:=(af.1 hi).1;obtain⟨j,h1,h2⟩:=x.rv e.1 (by omega) (by unfold mj;omega);refine⟨by omega,j,?_,h2⟩;rw[show e.1-1+1=e.1 by omega,im,h1];rfl
theorem QU{V:List Bool}(hc:vN l){j v:Nat}(h:l[j]? =Z ⟨1,v,0⟩)(t:Int):Ar V l (t,2*(j:Int))=V.getD (v-1) false:=by
 have hj:j≠0:=λe=>by
  subst e;rw[hc.2.1] at h;simp at h
 have h2:(2*(j:Int)/2).toNat=j:=by omega
 unfold Ar;dsimp only;rw[if_neg (by omega),h2,h];simp
variable{b:Bn}{m:Mx}{f:Nat}
theorem QV(x:xV l0 fi bb st l rs r){s:Nat}{c:Int×Int}(hc:c∈pJ rs (fi.map Fi.va) (cz fi bb st) b s f):
    (c.1∈els b.lo.tu/\c.2=0)\/∃e∈cz fi bb st,qo (fi.map Fi.va) e s f=true/\c.1=e.2.2.2/\1<=e.1/\∃j:Nat,c.2=2*(j:Int)/\l[j]? =Z ⟨1,e.1,0⟩:=by
 rcases cx.1 hc with hc |hc
 .obtain⟨t,ht,rfl⟩:=cA.1 hc;exact .inl ⟨ht,rfl⟩
 .obtain⟨e,h1,h2,rfl⟩:=K5.1 hc;obtain⟨h3,j,h4,h5⟩:=Zw x h1;exact .inr ⟨e,h1,h2,rfl,h3,j,h4,h5⟩
theorem am4(x:xV l0 fi bb st l rs r)(rB:∀b∈bb,dn (els b.up.tu)){s:Nat}(hb:bb[f]? =Z b)(cN:dn (els b.lo.tu))(uJ:1<=b.lo.ar/\b.lo.ar<=3)(hsm:(∀t∈els b.lo.tu,t∈els b.up.tu)/\∀t∈els b.up.tu,0<=t/\t<4611686018427387904)(h1:m.ar=b.lo.ar)(h2:els m.cs=eY (pJ rs (fi.map Fi.va) (cz fi bb st) b s f)):Yq (O l) m:=by
 have hv:=CL (fi:=fi) (st:=st) rB;refine⟨by rw[h1];exact uJ.1,by rw[h1];exact uJ.2,λc hc=>?_,λi a c ha hc=>?_⟩
 .rw[h2,Aq] at hc;refine⟨(hsm.2 _ (Zt hv hb hsm.1 hc)).1,?_⟩;rcases QV x hc with⟨_,h⟩ |⟨e,_,_,_,_,j,h,hj⟩
  .have:=x.pG.1;exact⟨0,wh.2 this,by rw[h];rfl⟩
  .exact⟨j,(af.1 hj).1,h⟩
 .rw[h2] at ha hc;obtain⟨q1,rfl⟩:=af.1 ha;obtain⟨q2,rfl⟩:=af.1 hc;exact C1.1 (K3 (QT (rs:=rs) hv (s:=s) hb cN)) i (i+1) q1 q2 (by omega)
theorem am5(x:xV l0 fi bb st l rs r)(hl:O l<20000)(V:Sl Bool)(hV:O (els V)<4611686018427387904){s:Nat}(h2:els m.cs=eY (pJ rs (fi.map Fi.va) (cz fi bb st) b s f)):
    ∀c∈els m.cs,∀H,au (call pg) 36 [.p (.agg [bq (.of l)]),.p (dr V),.p (.int .i64 c.2)] H=Z (.val (.p (.bool (Ar (els V) l c))),H):=by
 intro c hc H;rw[h2,Aq] at hc;obtain⟨t,x2⟩:=c;rcases QV x hc with⟨_,h⟩ |⟨e,_,_,_,_,j,h,hj⟩
 .dsimp only at h;subst h;obtain⟨rb,e1,e2,_⟩:=Yo x.pG hl V hV (j:=0) (wh.2 x.pG.1);rw[e2 rfl] at e1;exact e1 H
 .dsimp only at h;subst h;obtain⟨rb,e1,_,e3⟩:=Yo x.pG hl V hV (j:=j) (af.1 hj).1;rw[e3 _ hj] at e1;rw[QU x.pG hj];have:=e1 H
  rwa [show((2*j:Nat):Int)=2*(j:Int) by omega] at this
theorem am6{ev:Int×Int->Bool}{l:List (Int×Int)}(h:CM l):dn (qm ev l):=by
 unfold qm;exact AB.2 (Gg _ h)
theorem am7(x:xV l0 fi bb st l rs r)(V:List Bool)(rB:∀b∈bb,dn (els b.up.tu)){s:Nat}(hb:bb[f]? =Z b)(cN:dn (els b.lo.tu))(hs:dn (nM (nN V (fi.map Fi.va) (cz fi bb st) s f) (els b.lo.tu))):
    qm (Ar V l) (eY (pJ rs (fi.map Fi.va) (cz fi bb st) b s f))=nM (nN V (fi.map Fi.va) (cz fi bb st) s f) (els b.lo.tu):=by
 have hv:=CL (fi:=fi) (st:=st) rB;refine Zd (am6 (K3 (QT hv hb cN))) hs λt=>?_;rw[Za,Zk];unfold qm;rw[cA];constructor
 .rintro⟨c,hc,rfl⟩;obtain⟨q1,q2⟩:=my.1 hc;rw[Aq] at q1;rcases QV x q1 with⟨h,_⟩ |⟨e,h1,h3,h4,h5,j,h6,h7⟩
  .exact .inr h
  .refine .inl ⟨e,h1,?_,h3,h4.symm⟩;have :Ar V l (c.1,2*(j:Int))=true:=by rw[<-h6];exact q2
   rwa [QU x.pG h7] at this
 .rintro (⟨e,h1,h2,h3,rfl⟩ |h)
  .obtain⟨h4,j,h5,h6⟩:=Zw x h1;refine⟨(e.2.2.2,rs.getD (e.1-1+1) 0),my.2 ⟨(Aq _ _).2 (cx.2 (.inr (K5.2 ⟨e,h1,h3,rfl⟩))),?_⟩,rfl⟩;rw[h5,QU x.pG h6];exact h2
  .exact⟨(t,0),my.2 ⟨(Aq _ _).2 (cx.2 (.inl (cA.2 ⟨t,h,rfl⟩))),rfl⟩,rfl⟩

end Go.Proofs.YtgplgbonlnodeaaGreatDoor

namespace Go.Proofs.YtgplgbonlnodeaaGreatDoor
def jm(vs:List Bool)(K:List (Int×Int)):Nat:=K.countP λp=>vs.getD p.1.toNat false
theorem Zy(vs:List Bool)(s:Nat)(K:List (Int×Int))(v:Nat):O (jg vs s K v)=if s=0 then O K else jm vs K:=by
 have h:=congrArg oI (FY vs s K v);rw[bT,bT] at h;rw[h];by_cases hs:s=0
 .subst hs;rw[if_pos rfl];have :∀p∈K,(!pq vs 0 p.1)=true:=λp _=>by simp[pq]
  rw[List.filter_eq_self.2 this]
 .rw[if_neg hs];unfold jm;rw[List.countP_eq_length_filter];congr 1
  refine List.filter_congr λp _=>?_;have h0:decide (0<s)=true:=by simp;omega
  simp only[pq,h0,Q6,Bool.not_not]
theorem Zz(vs:List Bool)(K:List (Int×Int)):∀(n s v:Nat),1<=s->O (gC vs K n s v)=n*jm vs K
 | 0,s,v,_=>by simp[gC]
 |n+1,s,v,hs=>by
  simp only[gC,gG];rw[Zy,if_neg (by omega),Zz vs K n (s+1) _ (by omega),Nat.succ_mul];omega
variable{st:Int}
theorem am8{fi:List Fi}{bb:List Bn}(hst:1<=st):mj fi bb st=bF st+O (bu 0 bb)+(st.toNat-1)*jm (fi.map Fi.va) (bu 0 bb):=by
 unfold mj cz;obtain⟨n,hn⟩:∃n,st.toNat=n+1:=⟨st.toNat-1,by omega⟩;rw[hn];simp only[gC,gG];rw[Zy,if_pos rfl,Zz _ _ _ _ _ (by omega)];simp;omega
theorem am9(a:Sl Int)(st:Int):∀H,au (call pg) 54 [.p (.agg [ax a,.int .i64 st])] H=Z (.val (.p (.int .i64 ((bF st:Nat):Int))),H):=by
 rw[X8];have hf:O7=O7:=rfl
 conv at hf=>rhs;reduce
 refine aR (aa:=[_]) (e54.trans hf) rfl rfl rfl ?_;clear hf;by_cases h:1<st
 .simp[h]
 .simp[h]

variable{so f3 f4 : PD} {fi : Sl Fi} {a : Sl Int} {bs : Sl Bn} 
theorem ana(o1:so.one=true)(o3:f3.one=true)(o4:f4.one=true)(hst:1<=st/\st<=4)(hbl:O (els bs)=O (els fi))(hl:O (els bs)<=1000)
    (hu:∀b∈els bs,O (els b.up.tu)<=900/\O (els b.lo.tu)<=900):
    ∀H,au (call pg) 14 [.p (.agg [so,fT fi,f3,f4]),.p (.agg [ax a,.int .i64 st]),.p (cM bs)] H=Z (.val (.p (.int .i64 ((mj (els fi) (els bs) st:Nat):Int))),H):=by
 have c53:=aij bs hl λb hb=>by have:=hu b hb;omega
 have c54:=am9 a st;rw[am8 hst.1];have hKl:O (bu 0 (els bs))<=1000*900:=by
  have h1:=xA (els bs) 0 900 λb hb=>(hu b hb).1;have h5:O (els bs)*900<=1000*900:=ju 900 hl;omega
 have hix:∀p∈bu 0 (els bs),∃j:Nat,p.1=(j:Int)/\j<O (els fi):=λp hp=>by
  obtain⟨j,h1,_,h3⟩:=xF _ _ _ hp;exact⟨j,h1,by omega⟩
 have bW:bF st<=4:=by unfold bF;split<;>omega
 generalize bu 0 (els bs)=K at *;generalize bF st=sl at *;have QW:=Xw K;have hlen:dF 1 (.p (pB (fU K)))=Z (O K):=by rw[aif,QW]
 have ZA:∀k,jm ((els fi).map Fi.va) (K.take k)<=O K:=λk=>by
  unfold jm;have h1:=List.countP_le_length (p:=λp:Int×Int=>((els fi).map Fi.va).getD p.1.toNat false) (l:=K.take k);rw[kY] at h1;omega
 have hmul:∀c:Nat,(st.toNat-1)*c<=3*c:=λc=>ju c (by omega);have key:=mL (c:=call pg) (G:=pg.G) (keep:=[3,4,7,8,9]) (b:=bd vz 0) (λk=>[(3,.box 0 0),(4,.box 1 0),(7,.p (pB (fU K))),(8,.p (.int .i64 ((sl+O K+(st.toNat-1)*jm ((els fi).map Fi.va) (K.take k):Nat):Int))),(9,.p (.int .i64 ((k:Nat):Int)))]) ⟨[[.p so,.p (fT fi),.p f3,.p f4],[.p (ax a),.p (.int .i64 st)]],[]⟩ (O K)
  (λ_=>True) 0 (λe=>e.get 8= .p (.int .i64 ((sl+O K+(st.toNat-1)*jm ((els fi).map Fi.va) K:Nat):Int))) (λ_=>False) ?_ ?_
 .rcases key with⟨e,hx,h8,-⟩ |⟨e,hx,h2⟩
  .have hc0:jm ((els fi).map Fi.va) (K.take 0)=0:=rfl;have hw:IntKind.i64.wrap ((sl:Int)+(O K:Int))=((sl+O K:Nat):Int):=by rw[wrap64 (by omega) (by omega)];omega
   rw[hc0,Nat.mul_zero,nO] at hx;generalize ((sl+O K:Nat):Int)=n0 at *;generalize ((sl+O K+(st.toNat-1)*jm ((els fi).map Fi.va) K:Nat):Int)=n1 at *;have hb0:bd vz 0=bd vz 0:=rfl
   conv at hb0=>rhs;reduce
   have hf:vz=vz:=rfl
   conv at hf=>rhs;reduce
   rw[<-hb0] at hf;refine aR (aa:=[_,_,_]) (e14.trans hf) rfl rfl rfl ?_;clear hf hb0;simp at hx;simp[c53,c54,fM,o1,o3,o4,hlen,hw,hx,h8]
  .exact h2.elim
 .intro k hk;have hp:=aD hk;obtain⟨j,hj,jz⟩:=hix _ (dw hk);have ia:dE Y 2 (.p (pB (fU K))) (k:Int)=Z (.ro [.int .i64 (K[k]).1,.int .i64 (K[k]).2] 0):=by
   have:=aih (s:=fU K) (k:=k) (by rw[QW];exact hk);simpa only[QW] using this
  have BN:=py jz;have inc:=bt (k:=k) (by omega);have hck:=ZA k;have asq:=ZA (k+1);have iA:=hmul (jm ((els fi).map Fi.va) (K.take k));have kN:=hmul (jm ((els fi).map Fi.va) (K.take (k+1)));have hcs:jm ((els fi).map Fi.va) (K.take (k+1))=jm ((els fi).map Fi.va) (K.take k)+if(els fi)[j].va=true then 1 else 0:=by
   unfold jm;rw[ub,hp,List.countP_append];simp[hj,im,jz]
  rw[hj] at ia;have hlt:(k:Int)<(O K:Int):=by omega
  generalize (els fi)[j]=ff at *;cases hv:ff.va with
  |true=>
   rw[hv,if_pos rfl] at hcs;have zh:(st.toNat-1)*jm ((els fi).map Fi.va) (K.take (k+1))=(st.toNat-1)*jm ((els fi).map Fi.va) (K.take k)+(st.toNat-1):=by rw[hcs,Nat.mul_succ]
   have w1:IntKind.i64.wrap (((sl+O K+(st.toNat-1)*jm ((els fi).map Fi.va) (K.take k):Nat):Int)+st)=((sl+O K+(st.toNat-1)*jm ((els fi).map Fi.va) (K.take k):Nat):Int)+st:=wrap64 (by omega) (by omega);have w2:IntKind.i64.wrap (((sl+O K+(st.toNat-1)*jm ((els fi).map Fi.va) (K.take k):Nat):Int)+st-1)=((sl+O K+(st.toNat-1)*jm ((els fi).map Fi.va) (K.take (k+1)):Nat):Int):=by rw[wrap64 (by omega) (by omega)];omega
   rw[hv] at BN;generalize ((sl+O K+(st.toNat-1)*jm ((els fi).map Fi.va) (K.take k):Nat):Int)=n0 at *;generalize ((sl+O K+(st.toNat-1)*jm ((els fi).map Fi.va) (K.take (k+1)):Nat):Int)=n1 at *;generalize ((k:Nat):Int)=kI at *;generalize ((k+1 :Nat):Int)=kJ at *
   conv in bd vz 0=>reduce
   simp[hlen,hlt,ia,BN,inc,w1,w2]
  |false=>
   rw[hv,if_neg (by simp),nO] at hcs;rw[hcs];rw[hv] at BN;generalize ((sl+O K+(st.toNat-1)*jm ((els fi).map Fi.va) (K.take k):Nat):Int)=n0 at *;generalize ((k:Nat):Int)=kI at *;generalize ((k+1 :Nat):Int)=kJ at *
   conv in bd vz 0=>reduce
   simp[hlen,hlt,ia,BN,inc]
 .rw[lQ];generalize ((sl+O K+(st.toNat-1)*jm ((els fi).map Fi.va) K:Nat):Int)=n1 at *
  conv in bd vz 0=>reduce
  simp[hlen]

end Go.Proofs.YtgplgbonlnodeaaGreatDoor

namespace Go.Proofs.YtgplgbonlnodeaaGreatDoor
theorem ZB{s:Sl (Sl Mx)}{k:Nat}(h:k<O (els s)):dE Y 1 (.p (mS s)) (k:Int)=Z (.ro [oH (els s)[k]] 0):=by
 have :dE Y 1 (.p (mS s)) (k:Int)=Z (.ro (oH (els s)[k]).cells 0):=ni h;rw[this,QC]
theorem anf{s:Sl Mx}{k:Nat}(h:k<O (els s)):dE Y 2 (.p (oH s)) (k:Int)=Z (.ro [.int .i64 (els s)[k].ar,rp (els s)[k].cs] 0):=ni h

variable {so fp f3 f4 : PD} {a a2 : Sl Int} {st lp : Int} {V : Sl Bool} {l0 l : List Gt} {r : Sl (Sl Mx)} {ss : Sl (Sl Rl)}
def lM(so fp f3 f4:PD)(a a2:Sl Int)(st lp:Int)(l0 l:List Gt)(ss:Sl (Sl Rl)):Hp:=
 ⟨[[.p so,.p fp,.p f3,.p f4],[.p (ax a),.p (.int .i64 st)],[.p (bq (.of l0))],[.p (bq (.of l))],[.p (ax a2),.p (.int .i64 st),.p (qd ss),.p (.int .i64 lp)]],[]⟩
def CN(V:Sl Bool)(r:Sl (Sl Mx))(i:Nat):Env:=[(4,.p (dr V)),(5,.box 0 0),(6,.box 1 0),(8,.box 2 0),(11,.p (.bool true)),(12,.box 3 0),(13,.p (mS r)),(14,.box 4 0),(15,.p (.int .i64 ((i:Nat):Int)))]
theorem ang(K6:∃t,l=l0++t/\∀g∈t,g.k=1)(hl:O l<1000000):
    ∃e,dB (call pg) pg.G [4,5,6,8,11,12,13,14,15] (bd eO 0) ⟨CN V r 0,lM so fp f3 f4 a a2 st lp l0 l ss⟩=Z (.exit 0,⟨e,lM so fp f3 f4 a a2 st lp l0 l ss⟩)/\
     (e.get 4= .p (dr V)/\e.get 5= .box 0 0/\e.get 6= .box 1 0/\e.get 11= .p (.bool true)/\e.get 12= .box 3 0/\e.get 13= .p (mS r)/\e.get 14= .box 4 0):=by
 have ll:dF 1 (.p (bq (.of l)))=Z (O l):=pE (.of l);have ZC:dF 1 (.p (bq (.of l0)))=Z (O l0):=pE (.of l0);have key:=mL (c:=call pg) (G:=pg.G) (keep:=[4,5,6,8,11,12,13,14,15]) (b:=bd eO 0) (λi=>CN V r i) (lM so fp f3 f4 a a2 st lp l0 l ss) (O l) (λ_=>True) 0
  (λe=>e.get 4= .p (dr V)/\e.get 5= .box 0 0/\e.get 6= .box 1 0/\e.get 11= .p (.bool true)/\e.get 12= .box 3 0/\e.get 13= .p (mS r)/\e.get 14= .box 4 0) (λ_=>False) ?_ ?_
 .rcases key with⟨e,hx,hg,-⟩ |⟨e,hx,h2⟩
  .exact⟨e,hx,hg⟩
  .exact h2.elim
 .intro i hi;have ia:dE Y 3 (.p (bq (.of l))) (i:Int)=Z (.ro [.int .i64 l[i].k,.int .i64 l[i].a,.int .i64 l[i].b] 0):=vM (s:=.of l) hi;have inc:=bt (k:=i) (by omega);have hlt:(i:Int)<(O l:Int):=by omega
  obtain⟨t,rfl,ht⟩:=K6;rcases fA i (O l0) with h |h
  .have xL:dE Y 3 (.p (bq (.of l0))) (i:Int)=Z (.ro [.int .i64 l0[i].k,.int .i64 l0[i].a,.int .i64 l0[i].b] 0):=vM (s:=.of l0) h;have he:(l0++t)[i]=l0[i]:=List.getElem_append_left h;rw[he] at ia;have HT:(i:Int)<(O l0:Int):=by omega
   have QX:¬(O l0:Int)<=(i:Int):=by omega
   generalize l0[i]=g at *;generalize l0++t=l at *;unfold CN lM;generalize ((i:Nat):Int)=iI at *;generalize ((i+1 :Nat):Int)=iJ at *
   conv in bd eO 0=>reduce
   simp[ll,ZC,hlt,HT,QX,ia,xL,inc]
  .have hk:(l0++t)[i].k=1:=ht _ (by rw[List.getElem_append_right h];exact dw _);rw[hk] at ia;have HT:¬(i:Int)<(O l0:Int):=by omega
   have QX:(O l0:Int)<=(i:Int):=by omega
   generalize (l0++t)[i].a=ga at *;generalize (l0++t)[i].b=gb at *;generalize l0++t=l at *;unfold CN lM;generalize ((i:Nat):Int)=iI at *;generalize ((i+1 :Nat):Int)=iJ at *
   conv in bd eO 0=>reduce
   simp[ll,ZC,hlt,HT,QX,ia,inc]
 .unfold CN lM
  conv in bd eO 0=>reduce
  simp[ll]
def F6(V:Sl Bool)(r:Sl (Sl Mx))(s f:Nat):Env:=[(4,.p (dr V)),(5,.box 0 0),(6,.box 1 0),(11,.p (.bool true)),(12,.box 3 0),(13,.p (mS r)),(14,.box 4 0),(16,.p (.int .i64 ((s:Nat):Int))),(17,.p (.int .i64 ((f:Nat):Int)))]
def F7(V:Sl Bool)(r:Sl (Sl Mx))(s:Nat):Env:=[(4,.p (dr V)),(5,.box 0 0),(6,.box 1 0),(11,.p (.bool true)),(12,.box 3 0),(13,.p (mS r)),(14,.box 4 0),(16,.p (.int .i64 ((s:Nat):Int)))]
def QY(l:List Gt)(V:Sl Bool)(mm:Mx)(rr:Rl):Prop:=
 (∀H,au (call pg) 37 [.p (.agg [bq (.of l)]),.p mm.p] H=Z (.val (.p (.bool true)),H))/\
 ∃sv:Sl Int,(∀H,au (call pg) 39 [.p (.agg [bq (.of l)]),.p mm.p,.p (dr V)] H=Z (.val (.p (.agg [.int .i64 mm.ar,ax sv])),H))/\
  ∀H,au (call pg) 38 [.p (.agg [.int .i64 mm.ar,ax sv]),.p (.agg [.int .i64 rr.ar,ax rr.tu])] H=Z (.val (.p (.bool true)),H)
variable{nf:Nat}
theorem anh{s:Nat}(F8:dF 1 (.p fp)=Z nf)(zF:nf<1000000)(hs1:s<O (els r))(hs2:s<O (els ss))(hy:O (els (els r)[s])=nf)(hx:O (els (els ss)[s])=nf)
    (hg:∀(f:Nat) mm rr,(els (els r)[s])[f]? =Z mm->(els (els ss)[s])[f]? =Z rr->QY l V mm rr):
    ∃e,dB (call pg) pg.G [4,5,6,11,12,13,14,16,17] (bd eO 2) ⟨F6 V r s 0,lM so fp f3 f4 a a2 st lp l0 l ss⟩=Z (.exit 4,⟨e,lM so fp f3 f4 a a2 st lp l0 l ss⟩)/\
     (e.get 4= .p (dr V)/\e.get 5= .box 0 0/\e.get 6= .box 1 0/\e.get 11= .p (.bool true)/\e.get 12= .box 3 0/\e.get 13= .p (mS r)/\e.get 14= .box 4 0/\e.get 16= .p (.int .i64 ((s:Nat):Int))):=by
 have key:=mL (c:=call pg) (G:=pg.G) (keep:=[4,5,6,11,12,13,14,16,17]) (b:=bd eO 2) (λi=>F6 V r s i) (lM so fp f3 f4 a a2 st lp l0 l ss) nf (λ_=>True) 4
  (λe=>e.get 4= .p (dr V)/\e.get 5= .box 0 0/\e.get 6= .box 1 0/\e.get 11= .p (.bool true)/\e.get 12= .box 3 0/\e.get 13= .p (mS r)/\e.get 14= .box 4 0/\e.get 16= .p (.int .i64 ((s:Nat):Int))) (λ_=>False) ?_ ?_
 .rcases key with⟨e,hx,hg,-⟩ |⟨e,hx,h2⟩
  .exact⟨e,hx,hg⟩
  .exact h2.elim
 .intro f hf;have FJ:f<O (els (els r)[s]):=by omega
  have hf2:f<O (els (els ss)[s]):=by omega
  obtain⟨ZE,sv,ZF,c38⟩:=hg f _ _ (aD FJ) (aD hf2);have i1:=ZB hs1;have i2:=anf FJ;have i3:=WG hs2;have i4:=ahe hf2;have inc:=bt (k:=f) (by omega);have hlt:(f:Int)<(nf:Int):=by omega
  clear hg;unfold Mx.p at ZE ZF;generalize (els (els r)[s])[f]=mm at *;generalize (els (els ss)[s])[f]=rr at *;generalize (els r)[s]=y at *;generalize (els ss)[s]=x at *;unfold F6 lM;generalize ((f:Nat):Int)=fI at *;generalize ((f+1 :Nat):Int)=fJ at *;generalize ((s:Nat):Int)=sI at *
  conv in bd eO 2=>reduce
  simp[F8,hlt,i1,i2,i3,i4,ZE,ZF,c38,inc,fM]
 .unfold F6 lM;generalize ((s:Nat):Int)=sI at *
  conv in bd eO 2=>reduce
  simp[F8]
theorem anj(hst:1<=st/\st<=4)(F8:dF 1 (.p fp)=Z nf)(zF:nf<1000000)(hs1:O (els r)=st.toNat)(hs2:O (els ss)=st.toNat)(hy:∀y∈els r,O (els y)=nf)(hx:∀x∈els ss,O (els x)=nf)
    (hg:∀(s f:Nat) y x mm rr,(els r)[s]? =Z y->(els ss)[s]? =Z x->(els y)[f]? =Z mm->(els x)[f]? =Z rr->QY l V mm rr):
    ∃e,dB (call pg) pg.G [4,5,6,11,12,13,14,16] (bd eO 1) ⟨F7 V r 0,lM so fp f3 f4 a a2 st lp l0 l ss⟩=Z (.exit 2,⟨e,lM so fp f3 f4 a a2 st lp l0 l ss⟩)/\e.get 11= .p (.bool true):=by
 have key:=mL (c:=call pg) (G:=pg.G) (keep:=[4,5,6,11,12,13,14,16]) (b:=bd eO 1) (λi=>F7 V r i) (lM so fp f3 f4 a a2 st lp l0 l ss) st.toNat (λ_=>True) 2
  (λe=>e.get 11= .p (.bool true)) (λ_=>False) ?_ ?_
 .rcases key with⟨e,hx,hg,-⟩ |⟨e,hx,h2⟩
  .exact⟨e,hx,hg⟩
  .exact h2.elim
 .intro s hs;have h1:s<O (els r):=by omega
  have h2:s<O (els ss):=by omega
  have ly:=hy _ (dw h1);have lx:=hx _ (dw h2);obtain⟨e,nv,g4,g5,g6,g11,g12,g13,g14,g16⟩:=anh (so:=so) (f3:=f3) (f4:=f4) (a:=a) (a2:=a2) (st:=st) (lp:=lp) (l0:=l0) (s:=s) F8 zF h1 h2 ly lx λf mm rr q1 q2=>hg s f _ _ mm rr (aD h1) (aD h2) q1 q2;have i1:=ZB h1;have i3:=WG h2;have n1:dF 1 (.p (oH (els r)[s]))=Z nf:=by rw[alZ,ly]
  have n2:dF 1 (.p (oA (els ss)[s]))=Z nf:=by rw[ahd,lx]
  have inc:=bt (k:=s) (by omega);have hlt:(s:Int)<st:=by omega
  clear hg hy hx;generalize (els r)[s]=y at *;generalize (els ss)[s]=x at *;unfold F6 lM at nv;unfold F7 lM;generalize ((s:Nat):Int)=sI at *;generalize ((s+1 :Nat):Int)=sJ at *;have hb2:bd eO 2=bd eO 2:=rfl
  conv at hb2=>rhs;reduce
  have hb1:bd eO 1=bd eO 1:=rfl
  conv at hb1=>rhs;reduce
  rw[<-hb2] at hb1;rw[hb1];clear hb1 hb2;simp at nv;simp[F8,hlt,i1,i3,n1,n2,nv,g4,g5,g6,g11,g12,g13,g14,g16,inc]
 .have kH:¬((st.toNat:Nat):Int)<st:=by omega
  unfold F7 lM;generalize ((st.toNat:Nat):Int)=sI at *;have hb2:bd eO 2=bd eO 2:=rfl
  conv at hb2=>rhs;reduce
  have hb1:bd eO 1=bd eO 1:=rfl
  conv at hb1=>rhs;reduce
  rw[<-hb2] at hb1;rw[hb1];clear hb1 hb2;simp[kH]

end Go.Proofs.YtgplgbonlnodeaaGreatDoor

namespace Go.Proofs.YtgplgbonlnodeaaGreatDoor
attribute [local irreducible] pw nz nA jt

variable {sp : Sp} {a : Sl Int} {st : Int} {bs : Sl Bn}
theorem QZ(ok:nK sp a st bs):O (cz (els sp.fi) (els bs) st)<=4*(6*64):=by
 have h1:=xA (els bs) 0 64 λb hb=>(ok.tu b hb).2;have h2:=FK ((els sp.fi).map Fi.va) (bu 0 (els bs)) st.toNat 0 (bF st);have h3:O (els bs)<=6:=by have:=ok.len;have:=ok.FM.nf;omega
 have h4:O (bu 0 (els bs))<=6*64:=fW h1 (ju 64 h3);have h5:st.toNat*O (bu 0 (els bs))<=4*(6*64):=ud (by have:=ok.sc.2.2.2.1;omega) h4;exact fW h2 h5
theorem ank(ok:nK sp a st bs)(ha:a≠.cJ)(Ap:∀b∈els bs,b.lo.tu≠.cJ)(V:Sl Bool)(hV:O (els V)<4611686018427387904):
    ∃(m:Sl Int) (ss:Sl (Sl Rl)),(∀H,au (call pg) 24 [.p (.agg [jU sp.so,fT sp.fi,jV sp.pr,jW sp.fa]),.p (.agg [ax a,.int .i64 st]),.p (cM bs),.p (dr V)] H=Z (.val (.p (.agg [ax m,.int .i64 st,qd ss,.int .i64 (lL (els V) st (bF st))])),H))/\(els ss).map stM=pI (els sp.fi) (els bs) st (els V):=by
 have hl:=ok.len;have zF:=ok.FM.nf;obtain⟨s1,s2,s3,s4,s5,s6⟩:=ok.sc;have hd:=amS (els V) hl s3 ok.sup (λb hb=>⟨ok.xJ b hb,by have:=(ok.tu b hb).1;omega⟩) (fW (QZ ok) (by decide));obtain⟨r,c,e1,e2,_,_⟩:=amz (so:=jU sp.so) (f3:=jV sp.pr) (f4:=jW sp.fa) (fi:=sp.fi) (by simp) (by simp) (by simp) ⟨s3,s4⟩ ha (by omega) hl (by omega) (λb hb=>by have:=ok.tu b hb;omega) ok.xJ Ap hV hd;exact⟨r.1,r.2,c,e2⟩
theorem ZG(ok:nK sp a st bs){b:Bn}(hb:b∈els bs):(1<=b.lo.ar/\b.lo.ar<=3)/\(∀t∈els b.lo.tu,t∈els b.up.tu)/\∀t∈els b.up.tu,0<=t/\t<4611686018427387904:=by
 obtain⟨so,e1,e2,r1,r2,h5,_⟩:=ok.at b hb;obtain⟨_,_,h1,h2,_⟩:=r1;obtain⟨n0,n1,u1,u2,h4⟩:=r2;refine⟨⟨h1,h2⟩,h5,λt ht=>?_⟩;obtain⟨k,hk⟩:=dV ht;obtain⟨q1,q2⟩:=(h4 k (af.1 hk).1).1 t hk;refine⟨q1,?_⟩;have hp:∀n:Nat,n<13->∀k,k<4->n ^ k<4611686018427387904:=by decide
 have h6:=hp (els a).sum.toNat (by omega) b.up.ar.toNat (by omega);rw[<-Rf] at q2;omega
theorem ZH(ok:nK sp a st bs):O (els bs)<=6:=by have:=ok.len;have:=ok.FM.nf;omega
variable{l0:List Gt}
theorem anl(ok:nK sp a st bs)(hc:vN l0)(hl0:O l0<=60):
    ∃x:List Gt×List Int×Sl (Sl Mx),(∀H,au (call pg) 16 [.p (.agg [jU sp.so,fT sp.fi,jV sp.pr,jW sp.fa]),.p (.agg [ax a,.int .i64 st]),.p (cM bs),.p (.agg [bq (.of l0)])] H=Z (.val (.ba [.p (.agg [bq (.of x.1)]),.p (mS x.2.2)]),H))/\xV l0 (els sp.fi) (els bs) st x.1 x.2.1 x.2.2:=by
 have hE:=QZ ok;have h3:=ok.sc.2.2.1;have h4:=ok.sc.2.2.2.1;have hs:=amW h3;have hb:=ZH ok;refine amd (by simp) (by simp) (by simp) ⟨h3,h4⟩ ok.len (by omega) (λb hb=>by have:=ok.tu b hb;omega) ok.xJ hc (by omega) (by unfold mj;omega) λrs uZ _=>?_;exact am1 ok.len h3 ok.sup (λb hb=>⟨ok.xJ b hb,by have:=(ok.tu b hb).1;omega⟩) (by omega) (by omega) (λb hb=>(ZG ok hb).2) uZ
theorem anm(ok:nK sp a st bs){l:List Gt}{rs:List Int}{r:Sl (Sl Mx)}(x:xV l0 (els sp.fi) (els bs) st l rs r)(hl:O l<20000){V:Sl Bool}(hV:O (els V)<4611686018427387904){ss:Sl (Sl Rl)}(vx:(els ss).map stM=pI (els sp.fi) (els bs) st (els V)):
    (O (els r)=st.toNat/\O (els ss)=st.toNat/\(∀y∈els r,O (els y)=O (els sp.fi))/\∀y∈els ss,O (els y)=O (els sp.fi))/\
     ∀(s f:Nat) y z mm rr,(els r)[s]? =Z y->(els ss)[s]? =Z z->(els y)[f]? =Z mm->(els z)[f]? =Z rr->QY l V mm rr:=by
 obtain⟨a1,a2⟩:=am2 x.mx;obtain⟨b1,b2⟩:=amT ok.sup ok.xJ vx;have hlen:=ok.len;refine⟨⟨a1,b1,λy hy=>?_,λy hy=>?_⟩,λs f y z mm rr hy hz hm hr=>?_⟩
 .obtain⟨s,hs⟩:=dV hy;rw[(a2 s y hs).1,hlen]
 .obtain⟨s,hs⟩:=dV hy;rw[(b2 s y hs).1,hlen]
 .obtain⟨b,c1,c2,c3⟩:=(a2 s y hy).2 f mm hm;obtain⟨b',d1,d2,d3,d4⟩:=(b2 s z hz).2 f rr hr;rw[c1] at d1;cases d1;have jP:=bB c1;obtain⟨k1,k2⟩:=ZG ok jP;have hE:=QZ ok;have dN:O (els mm.cs)<100000:=by
   rw[c3,CH];have:=Zs rs ((els sp.fi).map Fi.va) (cz (els sp.fi) (els bs) st) s f;have:=(ok.tu b jP).1;unfold pJ;rw[gG,bT];omega
  obtain⟨sv,v1,v2,v3⟩:=akY mm (Ar (els V) l) dN (am5 x hl V hV c3);have hval:=am7 x (els V) ok.sup c1 (ok.xJ b jP) (s:=s) (by rw[<-d3];exact d4);rw[<-c3,<-v1,<-d3] at hval;refine⟨akP (by omega) (am4 x ok.sup c1 (ok.xJ b jP) k1 k2 c2 c3) (by omega),sv,v3,?_⟩;have n9:=Yt (Ar (els V) l) (els mm.cs);rw[<-v1] at n9;obtain⟨rb,w1,w2⟩:=ahF sv rr.tu mm.ar rr.ar (by omega);have :rb=true:=w2.2 ⟨by rw[c2,d2],hval⟩;rw[this] at w1;exact w1
theorem ann(CO:∀H,au (call pg) 10 [] H=Z (.val (.p (.bool true)),H))(sp:Sp)(xy:Ca sp)(A4:pC sp)(a:Sl Int)(st:Int)(bs:Sl Bn)(c:Sl Gt)(V:Sl Bool)(nB:O (els a)<4611686018427387904)(bW:O (els sp.so)<4611686018427387904)(hbl:O (els bs)<4611686018427387904)(ha:a≠.cJ)(Ap:∀b∈els bs,b.lo.tu≠.cJ):
    ∀H,au (call pg) 8 [.p (.agg sp.cl),.p (.agg [ax a,.int .i64 st]),.p (cM bs),.p (.agg [bq c]),.p (dr V)] H=Z (.val (.p (.bool true)),H):=by
 obtain⟨r1,c1,d1⟩:=akd sp xy A4 a st bs nB hbl bW;have lV:=Ce V;have lc:=pE c;have KL:=qW (Cx c);have hb2:bd eO 2=bd eO 2:=rfl
 conv at hb2=>rhs;reduce
 have hb1:bd eO 1=bd eO 1:=rfl
 conv at hb1=>rhs;reduce
 rw[<-hb2] at hb1;have hb0:bd eO 0=bd eO 0:=rfl
 conv at hb0=>rhs;reduce
 have hf:eO=eO:=rfl
 conv at hf=>rhs;reduce
 rw[<-hb2] at hf;rw[<-hb1] at hf;rw[<-hb0] at hf;refine aR (aa:=[_,_,_,_,_]) (e8.trans hf) rfl rfl rfl ?_;clear hf hb0 hb1 hb2;cases r1 with
 |false=>simp[CO,c1,fM]
 |true=>
 by_cases F9:(200 :Int)<(O (els V):Int)
 .simp[CO,c1,lV,F9,fM]
 by_cases Ga:(60 :Int)<(O (els c):Int)
 .simp[CO,c1,lV,F9,lc,Ga,fM]
 obtain⟨r2,c2,d2⟩:=akA c (by omega);cases r2 with
 |false=>simp[CO,c1,lV,F9,lc,Ga,c2,fM]
 |true=>
 have ok:=d1 rfl;clear d1;obtain⟨l0,rfl,ano⟩:=d2 rfl;clear d2;have iZ:els (.of l0)=l0:=rfl;rw[iZ] at lc Ga;have hl0:O l0<=60:=by omega
 have c3:=ana (so:=jU sp.so) (f3:=jV sp.pr) (f4:=jW sp.fa) (fi:=sp.fi) (a:=a) (bs:=bs) (st:=st) (by simp) (by simp) (by simp) ⟨ok.sc.2.2.1,ok.sc.2.2.2.1⟩ ok.len (by have:=ZH ok;omega) (λb hb=>by have:=ok.tu b hb;omega);by_cases cU:(200 :Int)<((mj (els sp.fi) (els bs) st:Nat):Int)
 .simp[CO,c1,lV,F9,lc,Ga,c2,c3,cU,fM]
 obtain⟨⟨l,rs,r⟩,c4,x⟩:=anl ok ano hl0;dsimp only at c4 x;obtain⟨a2,ss,c5,vx⟩:=ank ok ha Ap V (by omega);have jc:=x.ll;obtain⟨⟨g1,g2,g3,g4⟩,hg⟩:=anm ok x (by omega) (V:=V) (by omega) vx;have hst:=And.intro ok.sc.2.2.1 ok.sc.2.2.2.1;have zF:=ok.FM.nf;obtain⟨e1,hx1,q4,q5,q6,xU,CJ,FV,Qv⟩:=ang (so:=jU sp.so) (fp:=fT sp.fi) (f3:=jV sp.pr) (f4:=jW sp.fa) (a:=a) (a2:=a2) (st:=st) (lp:=lL (els V) st (bF st)) (V:=V) (r:=r) (ss:=ss) x.ext (by omega);obtain⟨e2,hx2,q2⟩:=anj (so:=jU sp.so) (fp:=fT sp.fi) (f3:=jV sp.pr) (f4:=jW sp.fa) (a:=a) (a2:=a2) (lp:=lL (els V) st (bF st)) (l0:=l0) hst (il sp.fi) (by omega) g1 g2 g3 g4 hg;have lg0:dF 1 (.p (bq (.of l0)))=Z (O l0):=pE (.of l0);have lg1:dF 1 (.p (bq (.of l)))=Z (O l):=pE (.of l);have ls:=al0 r;rw[g1] at ls;have lss:=ahf ss;rw[g2] at lss;obtain⟨t,K6,_⟩:=x.ext;have hlt:¬(O l:Int)<(O l0:Int):=by rw[K6,gG];omega
 have hsc:((st.toNat:Nat):Int)=st:=by omega
 have ass:=qW (Cx (.of l));clear hg g1 g2 g3 g4 x K6 vx;unfold CN lM at hx1;unfold F7 lM at hx2;generalize mj (els sp.fi) (els bs) st=n at *;generalize lL (els V) st (bF st)=lp at *;simp at hx1 hx2;simp[CO,c1,lV,F9,lc,Ga,c2,c3,cU,c4,c5,fM,lg1,ls,lss,hlt,hsc,hx1,hx2,q4,q5,q6,xU,CJ,FV,Qv,q2]

end Go.Proofs.YtgplgbonlnodeaaGreatDoor

namespace Go.Proofs.YtgplgbonlnodeaaGreatDoor
open Go.ChangeShapes Go.WideShapes Go.RowKit
theorem ZI{α:Type}{f:α->PD}{R:α->Prop}:∀{es:List PD},(∀x∈es,∃a,x=f a/\R a)->∃l:List α,es=l.map f/\∀a∈l,R a
 |[],_=>⟨[],rfl,by simp⟩
 |x::es,h=>by
  obtain⟨a,rfl,ha⟩:=h x (by simp);obtain⟨l,rfl,hl⟩:=ZI (es:=es) λy hy=>h y (by simp[hy]);exact⟨a::l,rfl,λb hb=>by
   rcases cq.1 hb with rfl |hb
   .exact ha
   .exact hl b hb⟩
variable{b:Bool}{xs:List PD}{t sz:Nat}{α:Type}{f:α->PD}{R:α->Prop}
theorem ZJ{e:Nat}(ht:Tryz.prog.underlying t=Z (.slice e))(hc:Tryz.prog.cellsOf e=sz)(s7:1<=Tryz.prog.bytesOf e)(h:ei Tryz.prog t xs)
    (he:∀es x,xs=[.slice sz es]->x∈es->ei Tryz.prog e x.cells->x=nk Tryz.prog e x.cells->∃a,x=f a/\R a):∃o:Sl α,xs=[eh sz (o.map f)]/\O (els o)<4611686018427387904/\(∀a∈els o,R a)/\o≠.cJ:=by
 subst hc;rcases ae9 ht h with rfl |rfl |⟨es,hne,hl,rfl,h1,h2⟩
 .exact⟨.nil,rfl,by simp[els],by simp[els],by simp⟩
 .exact⟨.of [],rfl,by simp[els],by simp[els],by simp⟩
 .obtain⟨l,rfl,hR⟩:=ZI λx hx=>he es x rfl hx (h1 x hx) (h2 x hx);refine⟨.of l,?_,?_,hR,by simp⟩
  .cases l with
   |nil=>exact absurd rfl hne
   |cons z zs=>rfl
  .rw[bT] at hl;have h3:=Nat.mul_le_mul_left (O l) s7;have h4:reachBytes=140737488351232:=rfl;simp only[els];omega
theorem vX{e:Nat}(ht:Tryz.prog.underlying t=Z (.slice e))(hc:Tryz.prog.cellsOf e=sz)(s7:1<=Tryz.prog.bytesOf e)(h:ei Tryz.prog t xs)
    (he:∀es x,xs=[.slice sz es]->x∈es->ei Tryz.prog e x.cells->x=nk Tryz.prog e x.cells->∃a,x=f a/\R a):∃o:Sl α,xs=[eh sz (o.map f)]/\O (els o)<4611686018427387904/\∀a∈els o,R a:=by
 obtain⟨o,h1,h2,h3,_⟩:=ZJ ht hc s7 h he;exact⟨o,h1,h2,h3⟩
theorem Q0(h:ei Tryz.prog 28 xs):∃o:Sl Int,xs=[ax o]/\O (els o)<4611686018427387904/\o≠.cJ:=by
 obtain⟨o,e,hl,_,hn⟩:=ZJ (f:=PD.int .i64) (R:=λ_=>True) Tryz.underlying28 (by kernel_rfl) (of_decide_eq_true (by kernel_rfl)) h λes x hes hx h1 h2=>by
  obtain⟨n,e1,_⟩:=tC Tryz.underlying3 h1;rw[e1,UL (λfs e=>by rw[Tryz.underlying3] at e;cases e)] at h2;exact⟨n,h2,trivial⟩
 exact⟨o,e,hl,hn⟩
theorem ZK(h:ei Tryz.prog 85 xs):∃r:Rl,xs=[.int .i64 r.ar,ax r.tu]/\r.tu≠.cJ:=by
 obtain⟨parts,rfl,hl,hf⟩:=qR Tryz.underlying85 h
 match parts,hl with
 |[a,b],_=>
  obtain⟨n,rfl,_⟩:=tC Tryz.underlying3 (hf 0 _ a rfl rfl);obtain⟨o,rfl,_,hn⟩:=Q0 (hf 1 _ b rfl rfl);exact⟨⟨n,o⟩,rfl,hn⟩
theorem anq(h:ei Tryz.prog 31 xs):∃bs:Sl Bn,xs=[cM bs]/\O (els bs)<4611686018427387904/\∀b∈els bs,b.lo.tu≠.cJ:=by
 obtain⟨o,e,h1,h2⟩:=vX (f:=Bn.p) (R:=λb=>b.lo.tu≠.cJ) Tryz.underlying31 (by kernel_rfl) (of_decide_eq_true (by kernel_rfl)) h λes x hes hx h1 h2=>by
  rw[wU Tryz.underlying98] at h2;obtain⟨parts,e,hl,hf⟩:=qR Tryz.underlying98 h1
  match parts,hl with
  |[a,b],_=>
   obtain⟨r,rfl,hn⟩:=ZK (hf 0 _ a rfl rfl);obtain⟨q,rfl,_⟩:=ZK (hf 1 _ b rfl rfl);rw[e] at h2;exact⟨⟨r,q⟩,h2,hn⟩
 exact⟨o,e,h1,h2⟩
theorem anr(h:ei Tryz.prog 30 xs):∃(a:Sl Int) (st:Int),xs=[ax a,.int .i64 st]/\O (els a)<4611686018427387904/\a≠.cJ:=by
 obtain⟨parts,rfl,hl,hf⟩:=qR Tryz.underlying30 h
 match parts,hl with
 |[d,e],_=>
  obtain⟨at',rfl,hl,hn⟩:=Q0 (hf 0 _ d rfl rfl);obtain⟨st,rfl,_⟩:=tC Tryz.underlying3 (hf 1 _ e rfl rfl);exact⟨at',st,rfl,hl,hn⟩
theorem ans(h:ei Tryz.prog 38 xs):∃o:Sl Bool,xs=[dr o]:=by
 obtain⟨o,e,_,_⟩:=vX (f:=PD.bool) (R:=λ_=>True) Tryz.underlying38 (by kernel_rfl) (of_decide_eq_true (by kernel_rfl)) h λes x hes hx h1 h2=>by
  obtain⟨n,e1⟩:=NQ Tryz.underlying4 h1;rw[e1,UL (λfs e=>by rw[Tryz.underlying4] at e;cases e)] at h2;exact⟨n,h2,trivial⟩
 exact⟨o,e⟩
theorem ant(h:ei Tryz.prog 32 xs):∃o:Sl Gt,xs=[bq o]:=by
 obtain⟨o,e,_,_⟩:=vX (f:=Gt.p) (R:=λ_=>True) Tryz.underlying32 (by kernel_rfl) (of_decide_eq_true (by kernel_rfl)) h λes x hes hx h1 h2=>by
  rw[wU Tryz.underlying76] at h2;obtain⟨parts,e,hl,hf⟩:=qR Tryz.underlying76 h1
  match parts,hl with
  |[a,b,c],_=>
   obtain⟨k,rfl,_⟩:=tC Tryz.underlying3 (hf 0 _ a rfl rfl);obtain⟨x,rfl,_⟩:=tC Tryz.underlying3 (hf 1 _ b rfl rfl);obtain⟨y,rfl,_⟩:=tC Tryz.underlying3 (hf 2 _ c rfl rfl);rw[e] at h2;exact⟨⟨k,x,y⟩,h2,trivial⟩
 exact⟨o,e⟩
theorem anu(h:ei Tryz.prog 34 xs):∃c:Sl Gt,xs=[bq c]:=by
 obtain⟨parts,rfl,hl,hf⟩:=qR Tryz.underlying34 h
 match parts,hl with
 |[a],_=>
  obtain⟨o,rfl⟩:=ant (hf 0 _ a rfl rfl);exact⟨o,rfl⟩
theorem anv(o:Sl Nd):∃c ks,o=xw c ks:=by
 match o with
 | .nil=>exact⟨0,[],rfl⟩
 | .cJ=>exact⟨1,[],rfl⟩
 | .of []=>exact⟨2,[],rfl⟩
 | .of (x::l)=>exact⟨2,x::l,rfl⟩
theorem anw:∀(n:Nat) (xs:List PD),SizeOf.sizeOf xs<=n->ei Tryz.prog 66 xs->∃a:Nd,xs=a.cl/\mh a:=by
 intro n
 induction n with
 |zero=>intro xs h;cases xs<;>simp at h
 |succ n ih=>
  intro xs hs h;obtain⟨parts,rfl,hl,hf⟩:=qR Tryz.underlying66 h
  match parts,hl with
  |[a,b,c,d,e],_=>
   obtain⟨op,rfl,_⟩:=tC Tryz.underlying3 (hf 0 _ a rfl rfl);obtain⟨nm,rfl,_⟩:=Bx Tryz.underlying9 (hf 1 _ b rfl rfl);obtain⟨k,rfl,_⟩:=tC Tryz.underlying3 (hf 2 _ c rfl rfl);obtain⟨pos,rfl,_⟩:=tC Tryz.underlying3 (hf 4 _ e rfl rfl);have hd:=hf 3 _ d rfl rfl;obtain⟨o,rfl,hlen,bV⟩:=vX (f:=Nd.pd) (R:=mh) (sz:=5) Tryz.underlying64 (by kernel_rfl) (of_decide_eq_true (by kernel_rfl)) hd λes x hes hx h1 h2=>by
    rw[wU Tryz.underlying66] at h2;have hlt:SizeOf.sizeOf x<SizeOf.sizeOf es:=List.sizeOf_lt_of_mem hx;have hx2:SizeOf.sizeOf x=1+SizeOf.sizeOf x.cells:=by
     have :SizeOf.sizeOf (PD.agg x.cells)=1+SizeOf.sizeOf x.cells:=by simp
     rw[<-h2] at this;exact this
    subst hes;simp at hs;obtain⟨y,hy,hyo⟩:=ih x.cells (by omega) h1;exact⟨y,by rw[h2,hy,Xk],hyo⟩
   obtain⟨c,ks,rfl⟩:=anv o;rw[E9] at hlen bV;exact⟨.mk op nm k c ks pos,rfl,.mk _ hlen bV⟩
theorem ZL(h:ei Tryz.prog 66 xs):∃a:Nd,xs=a.cl/\mh a:=anw _ _ (aK _) h
theorem anz(h:ei Tryz.prog 22 xs):∃o:Sl Sr,xs=[jU o]/\O (els o)<4611686018427387904/\∀s∈els o,O s.nm<=140737488355000:=by
 obtain⟨o,e,hl,h2⟩:=vX (f:=Sr.p) (R:=λs=>O s.nm<=140737488355000) Tryz.underlying22 (by kernel_rfl) (of_decide_eq_true (by kernel_rfl)) h λes x hes hx h1 h2=>by
  rw[wU Tryz.underlying93] at h2;obtain⟨parts,e,hl,hf⟩:=qR Tryz.underlying93 h1
  match parts,hl with
  |[a,b],_=>
   obtain⟨nm,rfl,hn⟩:=Bx Tryz.underlying9 (hf 0 _ a rfl rfl);obtain⟨od,rfl⟩:=NQ Tryz.underlying4 (hf 1 _ b rfl rfl);rw[e] at h2;have h4:reachBytes=140737488351232:=rfl;exact⟨⟨nm,od⟩,h2,by dsimp only;omega⟩
 exact⟨o,e,hl,h2⟩
theorem anA(h:ei Tryz.prog 23 xs):∃o:Sl Fi,xs=[fT o]:=by
 obtain⟨o,e,_,_⟩:=vX (f:=Fi.p) (R:=λ_=>True) Tryz.underlying23 (by kernel_rfl) (of_decide_eq_true (by kernel_rfl)) h λes x hes hx h1 h2=>by
  rw[wU Tryz.underlying95] at h2;obtain⟨parts,e,hl,hf⟩:=qR Tryz.underlying95 h1
  match parts,hl with
  |[a,b,c],_=>
   obtain⟨nm,rfl,_⟩:=Bx Tryz.underlying9 (hf 0 _ a rfl rfl);obtain⟨so,rfl,_⟩:=Q0 (hf 1 _ b rfl rfl);obtain⟨va,rfl⟩:=NQ Tryz.underlying4 (hf 2 _ c rfl rfl);rw[e] at h2;exact⟨⟨nm,so,va⟩,h2,trivial⟩
 exact⟨o,e⟩
theorem anB(h:ei Tryz.prog 163 xs):∃o:Sl Pm,xs=[gU o]:=by
 obtain⟨o,e,_,_⟩:=vX (f:=Pm.p) (R:=λ_=>True) Tryz.underlying163 (by kernel_rfl) (of_decide_eq_true (by kernel_rfl)) h λes x hes hx h1 h2=>by
  rw[wU Tryz.underlying222] at h2;obtain⟨parts,e,hl,hf⟩:=qR Tryz.underlying222 h1
  match parts,hl with
  |[a,b],_=>
   obtain⟨nm,rfl,_⟩:=Bx Tryz.underlying9 (hf 0 _ a rfl rfl);obtain⟨so,rfl,_⟩:=tC Tryz.underlying3 (hf 1 _ b rfl rfl);rw[e] at h2;exact⟨⟨nm,so⟩,h2,trivial⟩
 exact⟨o,e⟩
theorem anC(h:ei Tryz.prog 24 xs):∃o:Sl Pr,xs=[jV o]/\∀p∈els o,mh p.bo:=by
 obtain⟨o,e,_,h2⟩:=vX (f:=Pr.p) (R:=λp=>mh p.bo) Tryz.underlying24 (by kernel_rfl) (of_decide_eq_true (by kernel_rfl)) h λes x hes hx h1 h2=>by
  rw[wU Tryz.underlying165] at h2;obtain⟨parts,e,hl,hf⟩:=qR Tryz.underlying165 h1
  match parts,hl with
  |[a,b,c],_=>
   obtain⟨nm,rfl,_⟩:=Bx Tryz.underlying9 (hf 0 _ a rfl rfl);obtain⟨ps,rfl⟩:=anB (hf 1 _ b rfl rfl);obtain⟨bo,rfl,Fu⟩:=ZL (hf 2 _ c rfl rfl);rw[e] at h2;exact⟨⟨nm,ps,bo⟩,h2,Fu⟩
 exact⟨o,e,h2⟩
theorem anD(h:ei Tryz.prog 25 xs):∃o:Sl Fa,xs=[jW o]/\∀p∈els o,mh p.bo:=by
 obtain⟨o,e,_,h2⟩:=vX (f:=Fa.p) (R:=λp=>mh p.bo) Tryz.underlying25 (by kernel_rfl) (of_decide_eq_true (by kernel_rfl)) h λes x hes hx h1 h2=>by
  rw[wU Tryz.underlying147] at h2;obtain⟨parts,e,hl,hf⟩:=qR Tryz.underlying147 h1
  match parts,hl with
  |[a,c],_=>
   obtain⟨nm,rfl,_⟩:=Bx Tryz.underlying9 (hf 0 _ a rfl rfl);obtain⟨bo,rfl,Fu⟩:=ZL (hf 1 _ c rfl rfl);rw[e] at h2;exact⟨⟨nm,bo⟩,h2,Fu⟩
 exact⟨o,e,h2⟩
theorem anE(h:ei Tryz.prog 27 xs):∃sp:Sp,xs=sp.cl/\Ca sp/\pC sp/\O (els sp.so)<4611686018427387904:=by
 obtain⟨parts,rfl,hl,hf⟩:=qR Tryz.underlying27 h
 match parts,hl with
 |[a,b,c,d],_=>
  obtain⟨so,rfl,hl0,h1⟩:=anz (hf 0 _ a rfl rfl);obtain⟨fi,rfl⟩:=anA (hf 1 _ b rfl rfl);obtain⟨pr,rfl,h2⟩:=anC (hf 2 _ c rfl rfl);obtain⟨fa,rfl,h3⟩:=anD (hf 3 _ d rfl rfl);exact⟨⟨so,fi,pr,fa⟩,rfl,⟨h2,h3⟩,h1,hl0⟩
abbrev ZM:List TypeId:=[27,31,34,38,22,23,24,25,98,30,32,76,3,93,95,165,147,85,28,9,4,163,66,222,64]
theorem Gb:ZM.all (Ef Tryz.prog ZM)=true:=by kernel_rfl

variable {H : Type} {enc : TypeId × Value -> H} {W : World} {r : Reach} {b0 : Nat} {v : Value}
def Rd(enc:TypeId×Value->H)(W:World)(t:TypeId)(v:Value):Prop:=∃d p,DataW.Trod enc Tryz.prog W 0 (λ_=>true) true t v d p/\wV Tryz.prog t d

theorem anF(hval:Value.okWide Tryz.prog W r b0 27 v)(hd:Rd enc W 27 v):∃sp:Sp,aB (gB W) v (.p (.agg sp.cl))/\Ca sp/\pC sp/\O (els sp.so)<4611686018427387904:=by
 obtain⟨d,p,hd,hz⟩:=hd;obtain⟨x,h1,h2,h3,_⟩:=Eg Gb (by simp) hval hd hz;obtain⟨sp,e,q⟩:=anE h2;have hx:=h3 ⟨_,Tryz.underlying27⟩;exact⟨sp,by rw[<-e,<-hx];exact h1,q⟩

theorem anG(hval:Value.okWide Tryz.prog W r b0 31 v)(hd:Rd enc W 31 v):∃bs:Sl Bn,aB (gB W) v (.p (cM bs))/\O (els bs)<4611686018427387904/\∀b∈els bs,b.lo.tu≠.cJ:=by
 obtain⟨d,p,hd,hz⟩:=hd;obtain⟨x,h1,h2,_,h4⟩:=Eg Gb (by simp) hval hd hz;obtain⟨bs,e,q⟩:=anq h2;have h4:=h4 λfs e=>by rw[Tryz.underlying31] at e;cases e
 have hx:x=cM bs:=by
  cases x<;>first |(simp only[PD.cells,xY,and_true] at e;exact e) |(cases h4)
 exact⟨bs,hx▸h1,q⟩

theorem anH(hval:Value.okWide Tryz.prog W r b0 30 v)(hd:Rd enc W 30 v):∃(a:Sl Int) (st:Int),aB (gB W) v (.p (.agg [ax a,.int .i64 st]))/\O (els a)<4611686018427387904/\a≠.cJ:=by
 obtain⟨d,p,hd,hz⟩:=hd;obtain⟨x,h1,h2,h3,_⟩:=Eg Gb (by simp) hval hd hz;obtain⟨a,st,e,q⟩:=anr h2;have hx:=h3 ⟨_,Tryz.underlying30⟩;exact⟨a,st,by rw[<-e,<-hx];exact h1,q⟩

theorem anI(hval:Value.okWide Tryz.prog W r b0 38 v)(hd:Rd enc W 38 v):∃bs:Sl Bool,aB (gB W) v (.p (dr bs)):=by
 obtain⟨d,p,hd,hz⟩:=hd;obtain⟨x,h1,h2,_,h4⟩:=Eg Gb (by simp) hval hd hz;obtain⟨bs,e⟩:=ans h2;have h4:=h4 λfs e=>by rw[Tryz.underlying38] at e;cases e
 have hx:x=dr bs:=by
  cases x<;>first |(simp only[PD.cells,xY,and_true] at e;exact e) |(cases h4)
 exact⟨bs,hx▸h1⟩

theorem anJ(hval:Value.okWide Tryz.prog W r b0 34 v)(hd:Rd enc W 34 v):∃c:Sl Gt,aB (gB W) v (.p (.agg [bq c])):=by
 obtain⟨d,p,hd,hz⟩:=hd;obtain⟨x,h1,h2,h3,_⟩:=Eg Gb (by simp) hval hd hz;obtain⟨c,e⟩:=anu h2;have hx:=h3 ⟨_,Tryz.underlying34⟩;exact⟨c,by rw[<-e,<-hx];exact h1⟩
theorem anK{bi ti:Nat->Option Nat}{d:D}(h:d.ren bi ti=Z (.p (.bool b))):d= .p (.bool b):=by
 cases d with
 |p x=>simpa[D.ren] using h
 |aX t e sz es=>simp only[D.ren] at h;split at h<;>simp at h
 |fn f a c=>simp only[D.ren] at h;split at h<;>simp at h
 |_=>simp[D.ren] at h
theorem anL{c:br}{f:Nat}{aa:List PD}{H':Hp}(h:au c f (aa.map .p) ⟨[],[]⟩=Z (.val (.p (.bool b)),H')):∃Hx,c f (aa.map .p) ⟨[],[]⟩=Z (.val (.p (.bool b)),Hx):=by
 unfold au at h;simp only[qP,tB,ins,p9,gM,iQ,Vs.nodupB,Bool.and_self,if_true,aH,qO] at h;cases hc:c f (aa.map .p) ⟨[],[]⟩ with
 |none=>rw[hc] at h;cases h
 |some y=>
  obtain⟨r,Hx⟩:=y;rw[hc] at h;dsimp only at h;refine⟨Hx,?_⟩;have key:∀bi ti,r.ren bi ti=Z (.val (.p (.bool b)))->r= .val (.p (.bool b)):=by
   intro bi ti hr;cases r with
   |val d=>
    simp only[bR.ren,ak] at hr;obtain⟨d',h1,h2⟩:=hr;cases h2;rw[anK h1]
   |bN d=>
    simp only[bR.ren,ak] at hr;obtain⟨d',_,h2⟩:=hr;cases h2
  unfold back at h;split at h
  .dsimp only at h;split at h
   .rename_i hr _;cases h;rw[key _ _ hr]
   .split at h
    .rename_i hr _ _;cases h;rw[key _ _ hr]
    .cases h
  .cases h

end Go.Proofs.YtgplgbonlnodeaaGreatDoor

end
